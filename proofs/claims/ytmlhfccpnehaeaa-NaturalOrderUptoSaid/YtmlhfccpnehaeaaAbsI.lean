/- Limbs: plain arithmetic, no program in sight. -/
import Derived.Test.YtmlhfccpnehaeaaAbsH
set_option autoImplicit false
set_option linter.unusedVariables false
set_option linter.unusedSimpArgs false
namespace Go.Abs

/-- 2^32 to the i-th -/
def pw : Nat → Nat
  | 0 => 1
  | i + 1 => pw i * 4294967296

theorem pw_zero : pw 0 = 1 := rfl
theorem pw_succ (i : Nat) : pw (i + 1) = pw i * 4294967296 := rfl
theorem pw_pos (i : Nat) : 0 < pw i := by induction i with | zero => decide | succ i ih => rw [pw_succ]; omega
theorem pw_add (i j : Nat) : pw (i + j) = pw i * pw j := by
  induction j with
  | zero => simp [pw_zero]
  | succ j ih => rw [← Nat.add_assoc, pw_succ, pw_succ, ih, Nat.mul_assoc]
theorem pw_le {i j : Nat} (h : i ≤ j) : pw i ≤ pw j := by
  obtain ⟨k, rfl⟩ : ∃ k, j = i + k := ⟨j - i, by omega⟩
  rw [pw_add]; exact Nat.le_mul_of_pos_right _ (pw_pos k)
theorem pw_lt_iff {i j : Nat} : pw i < pw j ↔ i < j := by
  constructor
  · intro h; apply Classical.byContradiction; intro hn; have := pw_le (show j ≤ i by omega); omega
  · intro h; have := pw_le (show i + 1 ≤ j by omega); rw [pw_succ] at this; have := pw_pos i; omega
theorem pw_two (i : Nat) : pw i = 2 ^ (32 * i) := by
  induction i with
  | zero => rfl
  | succ i ih => rw [pw_succ, ih, show 32 * (i + 1) = 32 * i + 32 by omega, Nat.pow_add]

def Dig (g : Nat → Nat) (n : Nat) : Prop := ∀ j, j < n → g j < 4294967296
theorem Dig.mono {g : Nat → Nat} {n m : Nat} (h : Dig g n) (hm : m ≤ n) : Dig g m := fun j hj => h j (by omega)

def nval (g : Nat → Nat) : Nat → Nat
  | 0 => 0
  | n + 1 => nval g n + g n * pw n

theorem nval_zero (g : Nat → Nat) : nval g 0 = 0 := rfl
theorem nval_succ (g : Nat → Nat) (n : Nat) : nval g (n + 1) = nval g n + g n * pw n := rfl
theorem nval_congr {g h : Nat → Nat} : ∀ {n : Nat}, (∀ j, j < n → g j = h j) → nval g n = nval h n
  | 0, _ => rfl
  | n + 1, e => by rw [nval_succ, nval_succ, nval_congr fun j hj => e j (by omega), e n (by omega)]
theorem top_lt {x p y : Nat} (hx : x < 4294967296) (hy : y < p) : y + x * p < p * 4294967296 := by
  have := Nat.mul_le_mul_right p (show x + 1 ≤ 4294967296 by omega)
  grind
theorem nval_lt {g : Nat → Nat} : ∀ {n : Nat}, Dig g n → nval g n < pw n
  | 0, _ => by rw [nval_zero, pw_zero]; omega
  | n + 1, h => by rw [nval_succ, pw_succ]; exact top_lt (h n (by omega)) (nval_lt (h.mono (by omega)))

def digit (N j : Nat) : Nat := N / pw j % 4294967296
theorem digit_lt (N j : Nat) : digit N j < 4294967296 := Nat.mod_lt _ (by decide)
theorem digit_Dig (N n : Nat) : Dig (digit N) n := fun j _ => digit_lt N j

theorem mod_step (N i : Nat) : N % pw (i + 1) = N % pw i + digit N i * pw i := by
  rw [pw_succ, Nat.mod_mul, digit, Nat.mul_comm (pw i)]
theorem div_step (N i : Nat) : N / pw i = N / pw (i + 1) * 4294967296 + digit N i := by
  rw [pw_succ, ← Nat.div_div_eq_div_mul, digit]
  have := Nat.div_add_mod (N / pw i) 4294967296
  omega
theorem nval_digit (N : Nat) : ∀ n, nval (digit N) n = N % pw n
  | 0 => by rw [pw_zero, Nat.mod_one]; rfl
  | n + 1 => by rw [nval_succ, mod_step, nval_digit N n]
theorem digit_nval {g : Nat → Nat} : ∀ {n : Nat}, Dig g n → ∀ j, digit (nval g n) j = if j < n then g j else 0
  | 0, _, j => by simp [nval_zero, digit]
  | n + 1, h, j => by
    have hl := nval_lt (h.mono (show n ≤ n + 1 by omega))
    have hp := pw_pos j
    by_cases hj : j < n
    · rw [if_pos (by omega)]
      have ih := digit_nval (h.mono (show n ≤ n + 1 by omega)) j
      rw [if_pos hj] at ih
      rw [← ih, nval_succ, digit, digit]
      obtain ⟨k, rfl⟩ : ∃ k, n = j + (k + 1) := ⟨n - j - 1, by omega⟩
      rw [pw_add, pw_succ, show g (j + (k + 1)) * (pw j * (pw k * 4294967296)) = pw j * (g (j + (k + 1)) * pw k * 4294967296) by grind, Nat.add_mul_div_left _ _ hp, Nat.add_mul_mod_self_right]
    · by_cases e : j = n
      · subst e
        rw [if_pos (by omega), nval_succ, digit, Nat.mul_comm, Nat.add_mul_div_left _ _ hp, Nat.div_eq_of_lt hl, Nat.zero_add, Nat.mod_eq_of_lt (h j (by omega))]
      · rw [if_neg (by omega), digit, Nat.div_eq_of_lt, Nat.zero_mod]
        exact Nat.lt_of_lt_of_le (nval_lt h) (pw_le (by omega))
theorem nval_inj {g h : Nat → Nat} {n : Nat} (hg : Dig g n) (hh : Dig h n) (e : nval g n = nval h n) : ∀ j, j < n → g j = h j := by
  intro j hj
  have a := digit_nval hg j; have b := digit_nval hh j
  rw [if_pos hj] at a b; rw [← a, ← b, e]

/-- how many limbs -/
def size (N : Nat) : Nat := if N = 0 then 0 else N.log2 / 32 + 1
theorem size_zero : size 0 = 0 := rfl
theorem lt_pw_size (N : Nat) : N < pw (size N) := by
  unfold size
  split
  · rename_i h; subst h; decide
  · rename_i h
    rw [pw_two]
    have := Nat.lt_log2_self (n := N)
    exact Nat.lt_of_lt_of_le this (Nat.pow_le_pow_right (by decide) (by omega))
theorem pw_size_le {N k : Nat} (h : k < size N) : pw k ≤ N := by
  unfold size at h
  split at h
  · omega
  · rename_i hn
    rw [pw_two]
    exact Nat.le_trans (Nat.pow_le_pow_right (by decide) (by omega)) (Nat.log2_self_le hn)
theorem size_le {N n : Nat} (h : N < pw n) : size N ≤ n := by
  apply Classical.byContradiction; intro hn
  have := pw_size_le (N := N) (k := n) (by omega); omega
theorem lt_size {N n : Nat} (h : pw n ≤ N) : n < size N := by
  have := lt_pw_size N
  have := pw_lt_iff.1 (Nat.lt_of_le_of_lt h this)
  exact this
theorem size_mono {M N : Nat} (h : M ≤ N) : size M ≤ size N := size_le (Nat.lt_of_le_of_lt h (lt_pw_size N))
theorem size_eq {N n : Nat} (h1 : pw n ≤ N) (h2 : N < pw (n + 1)) : size N = n + 1 := by
  have := lt_size h1; have := size_le h2; omega
theorem size_eq_zero {N : Nat} : size N = 0 ↔ N = 0 := by
  constructor
  · intro h; have := lt_pw_size N; rw [h, pw_zero] at this; omega
  · rintro rfl; rfl
theorem digit_top {N n : Nat} (h : size N = n + 1) : digit N n ≠ 0 := by
  have h1 := lt_pw_size N; rw [h, pw_succ] at h1
  have h2 := pw_size_le (N := N) (k := n) (by omega)
  have : 0 < N / pw n := Nat.div_pos h2 (pw_pos n)
  have : N / pw n < 4294967296 := by rw [Nat.div_lt_iff_lt_mul (pw_pos n), Nat.mul_comm]; exact h1
  rw [digit, Nat.mod_eq_of_lt this]; omega
theorem digit_zero_of_size {N j : Nat} (h : size N ≤ j) : digit N j = 0 := by
  rw [digit, Nat.div_eq_of_lt, Nat.zero_mod]
  exact Nat.lt_of_lt_of_le (lt_pw_size N) (pw_le h)
theorem div_size (N : Nat) : N / pw (size N) = 0 := Nat.div_eq_of_lt (lt_pw_size N)
theorem mod_size {N n : Nat} (h : size N ≤ n) : N % pw n = N := Nat.mod_eq_of_lt (Nat.lt_of_lt_of_le (lt_pw_size N) (pw_le h))
theorem nval_digit_size (N : Nat) : nval (digit N) (size N) = N := by rw [nval_digit, mod_size (Nat.le_refl _)]
theorem size_nval {g : Nat → Nat} {n : Nat} (h : Dig g n) : size (nval g n) ≤ n := size_le (nval_lt h)

def trimLen (g : Nat → Nat) : Nat → Nat
  | 0 => 0
  | n + 1 => if g n = 0 then trimLen g n else n + 1
theorem trimLen_eq {g : Nat → Nat} : ∀ {n : Nat}, Dig g n → trimLen g n = size (nval g n)
  | 0, _ => rfl
  | n + 1, h => by
    rw [trimLen, nval_succ]
    split
    · rename_i e; rw [e, Nat.zero_mul, Nat.add_zero]; exact trimLen_eq (h.mono (by omega))
    · rename_i e
      refine (size_eq ?_ ?_).symm
      · exact Nat.le_trans (Nat.le_mul_of_pos_left _ (by omega)) (Nat.le_add_left _ _)
      · rw [pw_succ]; exact top_lt (h n (by omega)) (nval_lt (h.mono (by omega)))

/-! ### As data -/

/-- a list of limbs -/
def raw (g : Nat → Nat) (n : Nat) : AV := .f (.sl 1 (fun j => [.int .u32 (g j : Nat)]) n none)
/-- the number N in its canonical form -/
def nat (N : Nat) : AV := .f (.sl 1 (fun j => [.int .u32 (digit N j : Nat)]) (size N) none)

theorem nat_eq (N : Nat) : nat N = raw (digit N) (size N) := rfl
theorem FVle.int_of {k : IntKind} {a b : Int} (h : a = b) : FVle (.int k a) (.int k b) := h ▸ .refl _
theorem AVle.int_of {k : IntKind} {a b : Int} (h : a = b) : AVle (.f (.int k a)) (.f (.int k b)) := h ▸ .refl _
theorem FVle.limbs {g h : Nat → Nat} {n : Nat} {c : Option Nat} (e : ∀ j, j < n → g j = h j) :
    FVle (.sl 1 (fun j => [.int .u32 (g j : Nat)]) n c) (.sl 1 (fun j => [.int .u32 (h j : Nat)]) n none) :=
  .sl (fun i hi => by rw [e i hi]; exact ⟨.refl _, trivial⟩) (.inl rfl)
/-- a canonical list -/
theorem nat_of_trim {g : Nat → Nat} {n : Nat} (h : Dig g n) : AVle (raw g (trimLen g n)) (nat (nval g n)) := by
  rw [trimLen_eq h]
  refine .f (.limbs fun j hj => ?_)
  rw [digit_nval h, if_pos (Nat.lt_of_lt_of_le hj (size_nval h))]

theorem upd_int {k : IntKind} (g : Nat → Nat) (i x : Nat) : upd (fun j => [FV.int k (g j : Nat)]) i [FV.int k (x : Nat)] = fun j => [FV.int k ((if j = i then x else g j : Nat) : Int)] := by
  funext j; unfold upd; split <;> rfl
theorem upd_set {k : IntKind} (g : Nat → Nat) (i x : Nat) (l : List FV) (hl : l.length = 1) : upd (fun j => [FV.int k (g j : Nat)]) i (setD l 0 [FV.int k (x : Nat)]) = fun j => [FV.int k ((if j = i then x else g j : Nat) : Int)] := by
  match l, hl with | [y], _ => exact upd_int g i x

end Go.Abs
