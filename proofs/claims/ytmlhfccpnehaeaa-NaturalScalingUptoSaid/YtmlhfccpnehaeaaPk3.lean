/- Contracts of the functions that the law calls, and the logic in which they are proved: part 3. -/
import Derived.Test.YtmlhfccpnehaeaaPk2
/- Natural numbers: Mul. -/
set_option autoImplicit false
set_option maxHeartbeats 4000000
set_option linter.unusedVariables false
set_option linter.unusedSimpArgs false
namespace Go.Abs
open Go Go.Proofs

theorem nval_setg (h : Nat → Nat) (i x : Nat) : ∀ n, i < n → nval (fun j => if j = i then x else h j) n + h i * pw i = nval h n + x * pw i
  | 0, hi => by omega
  | n + 1, hi => by
    rw [nval_succ, nval_succ]
    by_cases e : i = n
    · subst e
      rw [if_pos rfl, nval_congr (g := fun j => if j = i then x else h j) (h := h) fun j hj => if_neg (by omega)]
      omega
    · rw [if_neg (by omega)]
      have := nval_setg h i x n (by omega)
      omega
theorem mul_inner {h : Nat → Nat} {B c i k N V x s : Nat} (hk : i + k < N) (e : nval h N + c * pw (i + k) = V + x * (B % pw k) * pw i) (hs : x * digit B k + h (i + k) + c = s) :
    nval (fun j => if j = i + k then s % 4294967296 else h j) N + s / 4294967296 * pw (i + (k + 1)) = V + x * (B % pw (k + 1)) * pw i := by
  have h1 := nval_setg h (i + k) (s % 4294967296) N hk
  rw [mod_step, show i + (k + 1) = i + k + 1 by omega, pw_succ]
  rw [pw_add] at *
  have := Nat.div_add_mod s 4294967296
  generalize s / 4294967296 = q at *
  generalize s % 4294967296 = r at *
  grind
theorem mul_bound {x y z w : Nat} (hx : x < 4294967296) (hy : y < 4294967296) (hz : z < 4294967296) (hw : w < 4294967296) : x * y + z + w < 18446744073709551616 := by
  have := Nat.mul_le_mul (show x ≤ 4294967295 by omega) (show y ≤ 4294967295 by omega); omega
theorem mul_bound2 {x y : Nat} (hx : x < 4294967296) (hy : y < 4294967296) : x * y < 18446744073709551616 := by
  have := Nat.mul_le_mul (show x ≤ 4294967295 by omega) (show y ≤ 4294967295 by omega); omega
theorem mul_zero_at {h : Nat → Nat} {A B i N : Nat} (hd : Dig h N) (e : nval h N = A % pw i * B) (hi : i + size B < N) : h (i + size B) = 0 := by
  have h1 := digit_nval hd (i + size B)
  rw [if_pos hi, e] at h1
  rw [← h1]
  apply digit_zero_of_size
  apply size_le
  rw [pw_add]
  have h2 : A % pw i < pw i := Nat.mod_lt _ (pw_pos i)
  have h3 := lt_pw_size B
  exact Nat.lt_of_le_of_lt (Nat.mul_le_mul_left _ (Nat.le_of_lt h3)) (Nat.mul_lt_mul_of_pos_right h2 (pw_pos _))
theorem mul_outer {h : Nat → Nat} {A B c i N : Nat} (hi : i + size B < N) (hz : h (i + size B) = 0) (e : nval h N + c * pw (i + size B) = A % pw i * B + digit A i * (B % pw (size B)) * pw i) :
    nval (fun j => if j = i + size B then c else h j) N = A % pw (i + 1) * B := by
  have h1 := nval_setg h (i + size B) c N hi
  rw [mod_step]
  rw [mod_size (Nat.le_refl _)] at e
  rw [hz] at h1
  grind

theorem Mul_ok (g h : Nat → Nat) (n m : Nat) (hg : Dig g n) (hh : Dig h m) (hn : n + m ≤ 4398046511104) :
    ACall Try.prog 30 [raw g n, raw h m] (nat (nval g n * nval h m)) := by
  have hA := size_nval hg
  have hB := size_nval hh
  have va := view_ok g n hg (by omega)
  have vb := view_ok h m hh (by omega)
  generalize nval g n = A at hA va ⊢
  generalize nval h m = B at hB vb ⊢
  refine acall_rule env [0, 1, 4, 5, 6, 7, 8, 9, 10, 11, 23, 30, 31, 32, 33, 37, 38, 39, 40] Try.func30 rfl rfl rfl rfl ?_
  conv => whnf
  refine callF va ⟨.refl _, trivial⟩ (by trivial) rfl ?_
  conv => whnf
  refine callF vb ⟨.refl _, trivial⟩ (by trivial) rfl ?_
  conv => whnf
  refine spl (fun h1 => ?_) (fun h1 => ?_) <;> simp only [decide_eq_true_eq, decide_eq_false_iff_not, Bool.not_eq_true', Bool.not_eq_false', gt_iff_lt, ge_iff_le] at h1
  · conv => whnf
    refine ⟨(by (try simp only [true_and, and_true, Nat.sub_zero, Nat.zero_add, Int.toNat_natCast]) <;> omega), ?_⟩
    rw [show A = 0 from size_eq_zero.1 (by omega), Nat.zero_mul]
    exact .nil_nat
  conv => whnf
  refine spl (fun h2 => ?_) (fun h2 => ?_) <;> simp only [decide_eq_true_eq, decide_eq_false_iff_not, Bool.not_eq_true', Bool.not_eq_false', gt_iff_lt, ge_iff_le] at h2
  · conv => whnf
    refine ⟨(by (try simp only [true_and, and_true, Nat.sub_zero, Nat.zero_add, Int.toNat_natCast]) <;> omega), ?_⟩
    rw [show B = 0 from size_eq_zero.1 (by omega), Nat.mul_zero]
    exact .nil_nat
  conv => whnf
  refine sumi64 (size A + size B) (by omega) (by omega) ?_
  conv => whnf
  refine ⟨(by (try simp only [true_and, and_true, Nat.sub_zero, Nat.zero_add, Int.toNat_natCast]) <;> omega), ?_⟩
  conv => whnf
  refine loop_mod [1, 5, 30, 31, 32] [29] [5] [29]
    (fun μ fr hp => ∃ (h : Nat → Nat) (i : Nat), fr = [(1, nat B), (5, .lsl 29 1 1 0 (size A + size B) (some (size A + size B))), (30, nat A), (31, .f (.int .i64 (size A : Nat))), (32, .f (.int .i64 i))] ∧ hp = [(29, 1, .fa 1 (size A + size B) (fun j => [.int .u32 (h j : Nat)]))] ∧ μ = size A - i ∧ i ≤ size A ∧ Dig h (size A + size B) ∧ nval h (size A + size B) = A % pw i * B)
    (fun e fr hp => e = .exit 0 ∧ ∃ h : Nat → Nat, fr = [(5, .lsl 29 1 1 0 (size A + size B) (some (size A + size B)))] ∧ hp = [(29, 1, .fa 1 (size A + size B) (fun j => [.int .u32 (h j : Nat)]))] ∧ Dig h (size A + size B) ∧ nval h (size A + size B) = A * B)
    ⟨_, _, _, _, rfl, .refl _, fun _ => 0, 0, rfl, rfl, rfl, Nat.zero_le _, fun j hj => by simp, ?_⟩ ?_ ?_
  · have : ∀ n, nval (fun _ => 0) n = 0 := fun n => by induction n with | zero => rfl | succ n ih => rw [nval_succ, ih, Nat.zero_mul]
    simp [pw_zero, Nat.mod_one, this]
  · rintro _ _ _ ⟨rfl, h, rfl, rfl, g2, g3⟩
    have hv := view_ok _ (size A + size B) g2 (by omega)
    rw [g3] at hv
    conv => whnf
    refine callF hv ⟨.raw_refl, trivial⟩ (by (try simp only [true_and, and_true, Nat.sub_zero, Nat.zero_add, Int.toNat_natCast]) <;> omega) rfl ?_
    conv => whnf
    refine ⟨(by (try simp only [true_and, and_true, Nat.sub_zero, Nat.zero_add, Int.toNat_natCast]) <;> omega), ?_⟩
    exact .refl _
  rintro _ _ _ ⟨h, i, rfl, rfl, rfl, g1, g2, g3⟩
  conv => whnf
  refine spl (fun h3 => ?_) (fun h3 => ?_) <;> simp only [decide_eq_true_eq, decide_eq_false_iff_not, Bool.not_eq_true', Bool.not_eq_false', gt_iff_lt, ge_iff_le] at h3
  · have hx := digit_lt A i
    have hz := mul_zero_at g2 g3 (by omega)
    conv => whnf
    refine ⟨(by (try simp only [true_and, and_true, Nat.sub_zero, Nat.zero_add, Int.toNat_natCast]) <;> omega), ?_⟩
    conv => whnf
    refine loop_mod [1, 5, 6, 7, 8, 30, 31, 32, 37, 38, 39] [29] [1, 5, 6, 8, 30, 31, 32] [29]
      (fun μ fr hp => ∃ (f : Nat → Nat) (c k : Nat), fr = [(1, nat B), (5, .lsl 29 1 1 0 (size A + size B) (some (size A + size B))), (6, .f (.int .i64 i)), (7, .f (.int .u32 (digit A i))), (8, .f (.int .u64 c)), (30, nat A), (31, .f (.int .i64 (size A : Nat))), (32, .f (.int .i64 i)), (37, nat B), (38, .f (.int .i64 (size B : Nat))), (39, .f (.int .i64 k))] ∧ hp = [(29, 1, .fa 1 (size A + size B) (fun j => [.int .u32 (f j : Nat)]))] ∧
        μ = size B - k ∧ k ≤ size B ∧ Dig f (size A + size B) ∧ c < 4294967296 ∧ f (i + size B) = 0 ∧ nval f (size A + size B) + c * pw (i + k) = A % pw i * B + digit A i * (B % pw k) * pw i)
      (fun e fr hp => e = .exit 2 ∧ ∃ (f : Nat → Nat) (c : Nat), fr = [(1, nat B), (5, .lsl 29 1 1 0 (size A + size B) (some (size A + size B))), (6, .f (.int .i64 i)), (8, .f (.int .u64 c)), (30, nat A), (31, .f (.int .i64 (size A : Nat))), (32, .f (.int .i64 i))] ∧ hp = [(29, 1, .fa 1 (size A + size B) (fun j => [.int .u32 (f j : Nat)]))] ∧
        Dig f (size A + size B) ∧ c < 4294967296 ∧ f (i + size B) = 0 ∧ nval f (size A + size B) + c * pw (i + size B) = A % pw i * B + digit A i * (B % pw (size B)) * pw i)
      ⟨_, _, _, _, rfl, .refl _, h, 0, 0, rfl, rfl, rfl, Nat.zero_le _, g2, by simp, hz, by simp [pw_zero, Nat.mod_one, g3]⟩ ?_ ?_
    · rintro _ _ _ ⟨rfl, f, c, rfl, rfl, f2, f3, f4, f5⟩
      have hstep := mul_outer (h := f) (A := A) (c := c) (by omega) f4 f5
      conv => whnf
      refine sumi64 (i + size B) (by omega) (by omega) ?_
      conv => whnf
      refine sumu32 c rfl (by omega) ?_
      conv => whnf
      refine ⟨(by (try simp only [true_and, and_true, Nat.sub_zero, Nat.zero_add, Int.toNat_natCast]) <;> omega), ?_⟩
      conv => whnf
      refine ⟨(by (try simp only [true_and, and_true, Nat.sub_zero, Nat.zero_add, Int.toNat_natCast]) <;> omega), ?_⟩
      conv => whnf
      refine sumi64 (i + 1) (by omega) (by omega) ?_
      conv => whnf
      refine ⟨_, ?_, _, _, _, rfl, ?_, fun j => if j = i + size B then c else f j, i + 1, rfl, rfl, rfl, by omega, Dig_set f2 f3, hstep⟩
      · omega
      · exact ⟨⟨rfl, rfl⟩, .set (by omega) rfl, trivial⟩
    rintro _ _ _ ⟨f, c, k, rfl, rfl, rfl, f1, f2, f3, f4, f5⟩
    conv => whnf
    refine spl (fun h4 => ?_) (fun h4 => ?_) <;> simp only [decide_eq_true_eq, decide_eq_false_iff_not, Bool.not_eq_true', Bool.not_eq_false', gt_iff_lt, ge_iff_le] at h4
    · have hy := digit_lt B k
      have hw := f2 (i + k) (by omega)
      have hb := mul_bound hx hy hw f3
      have hb2 := mul_bound2 hx hy
      conv => whnf
      refine ⟨(by (try simp only [true_and, and_true, Nat.sub_zero, Nat.zero_add, Int.toNat_natCast]) <;> omega), ?_⟩
      conv => whnf
      refine sumu64 (digit A i) rfl (by omega) ?_
      conv => whnf
      refine sumu64 (digit B k) rfl (by omega) ?_
      conv => whnf
      refine sumu64 (digit A i * digit B k) (by rw [Int.natCast_mul]) (by omega) ?_
      conv => whnf
      refine sumi64 (i + k) (by omega) (by omega) ?_
      conv => whnf
      refine ⟨(by (try simp only [true_and, and_true, Nat.sub_zero, Nat.zero_add, Int.toNat_natCast]) <;> omega), ?_⟩
      conv => whnf
      refine ⟨(by (try simp only [true_and, and_true, Nat.sub_zero, Nat.zero_add, Int.toNat_natCast]) <;> omega), ?_⟩
      conv => whnf
      refine sumu64 (f (i + k)) (congrArg (fun t => ((f t : Nat) : Int)) (by omega)) (by omega) ?_
      conv => whnf
      refine sumu64 (digit A i * digit B k + f (i + k)) (by omega) (by omega) ?_
      conv => whnf
      refine sumu64 (digit A i * digit B k + f (i + k) + c) (by omega) (by omega) ?_
      conv => whnf
      have hstep := mul_inner (h := f) (B := B) (c := c) (i := i) (k := k) (N := size A + size B) (x := digit A i) (by omega) f5 rfl
      generalize hs : digit A i * digit B k + f (i + k) + c = s at hstep hb ⊢
      refine sumi64 (i + k) (by omega) (by omega) ?_
      conv => whnf
      refine lowu32 ?_
      conv => whnf
      refine ⟨(by (try simp only [true_and, and_true, Nat.sub_zero, Nat.zero_add, Int.toNat_natCast]) <;> omega), ?_⟩
      conv => whnf
      refine ⟨(by (try simp only [true_and, and_true, Nat.sub_zero, Nat.zero_add, Int.toNat_natCast]) <;> omega), ?_⟩
      conv => whnf
      refine ⟨(by (try simp only [true_and, and_true, Nat.sub_zero, Nat.zero_add, Int.toNat_natCast]) <;> omega), ?_⟩
      conv => whnf
      refine shr32 (by decide) ?_
      conv => whnf
      refine sumi64 (k + 1) (by omega) (by omega) ?_
      conv => whnf
      refine ⟨_, ?_, _, _, _, rfl, ?_, fun j => if j = i + k then s % 4294967296 else f j, s / 4294967296, k + 1, rfl, rfl, rfl, by omega, Dig_set f2 (Nat.mod_lt _ (by decide)), by omega, (if_neg (by omega)).trans f4, hstep⟩
      · omega
      · exact ⟨⟨rfl, rfl⟩, .set (by omega) rfl, trivial⟩
    · conv => whnf
      have hk : k = size B := by omega
      subst hk
      exact ⟨_, _, _, rfl, .refl _, rfl, f, c, rfl, rfl, f2, f3, f4, f5⟩
  · have hk : i = size A := by omega
    subst hk
    rw [mod_size (Nat.le_refl _)] at g3
    conv => whnf
    exact ⟨_, _, _, rfl, .refl _, rfl, h, rfl, rfl, g2, g3⟩
end Go.Abs

/- Natural numbers: short, DivMod but for the long division. -/
set_option autoImplicit false
set_option maxHeartbeats 4000000
set_option linter.unusedVariables false
set_option linter.unusedSimpArgs false
namespace Go.Abs
open Go Go.Proofs

theorem short_step (A i : Nat) {d : Nat} (hd : 0 < d) :
    (A / pw (i + 1) % d * 4294967296 + digit A i) / d = digit (A / d) i ∧ (A / pw (i + 1) % d * 4294967296 + digit A i) % d = A / pw i % d := by
  have hx := digit_lt A i
  have e1 := div_step A i
  have e2 : digit (A / d) i = A / pw i / d % 4294967296 := by rw [digit, Nat.div_div_eq_div_mul, Nat.div_div_eq_div_mul, Nat.mul_comm]
  rw [e2, e1]
  generalize A / pw (i + 1) = a
  generalize digit A i = x at *
  have e3 := Nat.div_add_mod a d
  have hr : a % d < d := Nat.mod_lt _ hd
  generalize a / d = q at *
  generalize a % d = r at *
  have e4 : a * 4294967296 + x = d * (q * 4294967296) + (r * 4294967296 + x) := by rw [← e3]; grind
  have hlt : (r * 4294967296 + x) / d < 4294967296 := by
    rw [Nat.div_lt_iff_lt_mul hd]
    have := Nat.mul_le_mul_right 4294967296 (show r + 1 ≤ d by omega)
    omega
  constructor
  · rw [e4, Nat.mul_add_div hd, Nat.mul_comm q, Nat.mul_add_mod, Nat.mod_eq_of_lt hlt]
  · rw [e4, Nat.mul_add_mod]

theorem short_ok (A d : Nat) (hd : 0 < d) (hd2 : d < 4294967296) (hA : size A ≤ 4398046511104) :
    ACall Try.prog 44 [nat A, .f (.int .u32 d)] (.tup [nat (A / d), .f (.int .u32 (A % d : Nat))]) := by
  have hq : size (A / d) ≤ size A := size_mono (Nat.div_le_self _ _)
  refine acall_rule env [0, 1, 4, 5, 6, 7, 8, 9, 17] Try.func44 rfl rfl rfl rfl ?_
  conv => whnf
  refine ⟨(by (try simp only [true_and, and_true, Nat.sub_zero, Nat.zero_add, Int.toNat_natCast]) <;> omega), ?_⟩
  conv => whnf
  refine fit64 (by omega) ?_
  conv => whnf
  refine loop_mod [0, 1, 6, 7, 8] [12] [6, 7] [12]
    (fun μ fr hp => ∃ (i : Int) (r : Nat), fr = [(0, nat A), (1, .f (.int .u32 d)), (6, .lsl 12 1 1 0 (size A) (some (size A))), (7, .f (.int .u64 r)), (8, .f (.int .i64 i))] ∧ hp = [(12, 1, .fa 1 (size A) (fun j => [.int .u32 ((if i < j then digit (A / d) j else 0 : Nat) : Int)]))] ∧ μ = (i + 1).toNat ∧
      -1 ≤ i ∧ i < size A ∧ r = A / pw (i + 1).toNat % d)
    (fun e fr hp => e = .exit 0 ∧ fr = [(6, .lsl 12 1 1 0 (size A) (some (size A))), (7, .f (.int .u64 (A % d : Nat)))] ∧ hp = [(12, 1, .fa 1 (size A) (fun j => [.int .u32 (digit (A / d) j : Nat)]))])
    ⟨_, _, _, _, rfl, ?_, (size A : Int) - 1, 0, rfl, rfl, rfl, by omega, by omega, ?_⟩ ?_ ?_
  · refine ⟨⟨rfl, rfl⟩, .fa fun j hj => ?_, trivial⟩
    rw [if_neg (by omega)]; exact .one (.refl _)
  · rw [show ((size A : Int) - 1 + 1).toNat = size A by omega, div_size, Nat.zero_mod]
  · rintro _ _ _ ⟨rfl, rfl, rfl⟩
    have hv := view_ok _ (size A) (digit_Dig (A / d) (size A)) (by omega)
    rw [nval_digit, mod_size hq] at hv
    have hr : A % d < d := Nat.mod_lt _ hd
    conv => whnf
    refine callF hv ⟨.raw_refl, trivial⟩ (by (try simp only [true_and, and_true, Nat.sub_zero, Nat.zero_add, Int.toNat_natCast]) <;> omega) rfl ?_
    conv => whnf
    refine sumu32 (A % d) rfl (by omega) ?_
    conv => whnf
    refine ⟨(by (try simp only [true_and, and_true, Nat.sub_zero, Nat.zero_add, Int.toNat_natCast]) <;> omega), ?_⟩
    exact .refl _
  rintro _ _ _ ⟨i, r, rfl, rfl, rfl, h1, h2, h3⟩
  conv => whnf
  refine spl (fun h4 => ?_) (fun h4 => ?_) <;> simp only [decide_eq_true_eq, decide_eq_false_iff_not, Bool.not_eq_true', Bool.not_eq_false', gt_iff_lt, ge_iff_le] at h4
  · have e1 : (i + 1).toNat = i.toNat + 1 := by omega
    rw [e1] at h3
    have hx := digit_lt A i.toNat
    have hs := short_step A i.toNat hd
    rw [← h3] at hs
    have hr : r < d := by rw [h3]; exact Nat.mod_lt _ hd
    have hq2 := digit_lt (A / d) i.toNat
    conv => whnf
    refine ⟨(by (try simp only [true_and, and_true, Nat.sub_zero, Nat.zero_add, Int.toNat_natCast]) <;> omega), ?_⟩
    conv => whnf
    refine shl32 (r * 4294967296) (by omega) ?_
    conv => whnf
    refine ⟨(by (try simp only [true_and, and_true, Nat.sub_zero, Nat.zero_add, Int.toNat_natCast]) <;> omega), ?_⟩
    conv => whnf
    refine sumu64 (digit A i.toNat) rfl (by omega) ?_
    conv => whnf
    refine or32 (by omega) hx ?_
    conv => whnf
    refine sumu64 d rfl (by omega) ?_
    conv => whnf
    refine ⟨(by (try simp only [true_and, and_true, Nat.sub_zero, Nat.zero_add, Int.toNat_natCast]) <;> omega), ?_⟩
    conv => whnf
    refine quou64 (by omega) ?_
    conv => whnf
    rw [hs.1]
    refine sumu32 (digit (A / d) i.toNat) rfl (by omega) ?_
    conv => whnf
    refine ⟨(by (try simp only [true_and, and_true, Nat.sub_zero, Nat.zero_add, Int.toNat_natCast]) <;> omega), ?_⟩
    conv => whnf
    refine ⟨(by (try simp only [true_and, and_true, Nat.sub_zero, Nat.zero_add, Int.toNat_natCast]) <;> omega), ?_⟩
    conv => whnf
    refine sumu64 d rfl (by omega) ?_
    conv => whnf
    refine ⟨(by (try simp only [true_and, and_true, Nat.sub_zero, Nat.zero_add, Int.toNat_natCast]) <;> omega), ?_⟩
    conv => whnf
    refine remN ?_
    conv => whnf
    rw [hs.2]
    refine fit64 (by omega) ?_
    conv => whnf
    refine ⟨_, ?_, _, _, _, rfl, ?_, i - 1, A / pw i.toNat % d, rfl, rfl, rfl, by omega, by omega, by rw [show (i - 1 + 1).toNat = i.toNat by omega]⟩
    · omega
    · refine ⟨⟨rfl, rfl⟩, .fa fun j hj => ?_, trivial⟩
      rw [upd_set (fun j => if i < (j : Int) then digit (A / d) j else 0) _ _ _ rfl]
      refine .one (.int_of ?_)
      by_cases e : j = i.toNat
      · subst e; rw [if_pos (by omega), if_pos (by omega)]
      · rw [if_neg (by omega)]
        by_cases e2 : i < (j : Int)
        · rw [if_pos e2, if_pos (by omega)]
        · rw [if_neg e2, if_neg (by omega)]
  · have : i = -1 := by omega
    subst this
    have h3 : r = A / pw 0 % d := h3
    rw [pw_zero, Nat.div_one] at h3
    subst h3
    conv => whnf
    refine ⟨_, _, _, rfl, ?_, rfl, rfl, rfl⟩
    refine ⟨⟨rfl, rfl⟩, .fa fun j hj => ?_, trivial⟩
    rw [if_pos (by omega)]; exact .one (.refl _)

/-- what DivMod answers -/
def divRes (A B : Nat) : AV := if B = 0 then .tup [nat 0, nat 0, .f (.bool false)] else .tup [nat (A / B), nat (A % B), .f (.bool true)]

theorem DivMod_gen (g h : Nat → Nat) (n m : Nat) (hg : Dig g n) (hh : Dig h m) (hn : n ≤ 4398046511104) (hm : m ≤ 4398046511104)
    (hlong : 2 ≤ size (nval h m) → nval h m ≤ nval g n → ACall Try.prog 45 [nat (nval g n), nat (nval h m)] (.tup [nat (nval g n / nval h m), nat (nval g n % nval h m)])) :
    ACall Try.prog 28 [raw g n, raw h m] (divRes (nval g n) (nval h m)) := by
  have hA := size_nval hg
  have hB := size_nval hh
  have va := view_ok g n hg hn
  have vb := view_ok h m hh hm
  generalize nval g n = A at hA va hlong ⊢
  generalize nval h m = B at hB vb hlong ⊢
  unfold divRes
  refine acall_rule env [0, 1, 4, 5, 6, 7, 8, 13, 17, 24] Try.func28 rfl rfl rfl rfl ?_
  conv => whnf
  refine callF va ⟨.refl _, trivial⟩ (by trivial) rfl ?_
  conv => whnf
  refine callF vb ⟨.refl _, trivial⟩ (by trivial) rfl ?_
  conv => whnf
  refine spl (fun h1 => ?_) (fun h1 => ?_) <;> simp only [decide_eq_true_eq, decide_eq_false_iff_not, Bool.not_eq_true', Bool.not_eq_false', gt_iff_lt, ge_iff_le] at h1
  · rw [if_pos (size_eq_zero.1 (by omega))]
    conv => whnf
    refine ⟨(by (try simp only [true_and, and_true, Nat.sub_zero, Nat.zero_add, Int.toNat_natCast]) <;> omega), ?_⟩
    exact .tup ⟨.nil_nat, .nil_nat, .refl _, trivial⟩
  have hB0 : 0 < B := by
    rcases Nat.eq_zero_or_pos B with h | h
    · exact absurd (size_eq_zero.2 h) (by omega)
    · exact h
  rw [if_neg (by omega)]
  conv => whnf
  have hc := Compare_ok (digit A) (digit B) (size A) (size B) (digit_Dig _ _) (digit_Dig _ _) (by omega) (by omega)
  rw [nval_digit_size, nval_digit_size] at hc
  refine callF hc ⟨.refl _, .refl _, trivial⟩ (by trivial) rfl ?_
  conv => whnf
  refine spl (fun h2 => ?_) (fun h2 => ?_) <;> simp only [decide_eq_true_eq, decide_eq_false_iff_not, Bool.not_eq_true', Bool.not_eq_false', gt_iff_lt, ge_iff_le] at h2
  · have hlt := cmp_lt.1 h2
    rw [Nat.div_eq_of_lt hlt, Nat.mod_eq_of_lt hlt]
    have ht := Trim_ok (digit A) (size A) (digit_Dig _ _) (by omega)
    rw [nval_digit_size] at ht
    conv => whnf
    refine callF ht ⟨.refl _, trivial⟩ (by trivial) rfl ?_
    conv => whnf
    refine ⟨(by (try simp only [true_and, and_true, Nat.sub_zero, Nat.zero_add, Int.toNat_natCast]) <;> omega), ?_⟩
    exact .tup ⟨.nil_nat, .refl _, .refl _, trivial⟩
  have hle : B ≤ A := by have := mt cmp_lt.2 h2; omega
  conv => whnf
  refine spl (fun h3 => ?_) (fun h3 => ?_) <;> simp only [decide_eq_true_eq, decide_eq_false_iff_not, Bool.not_eq_true', Bool.not_eq_false', gt_iff_lt, ge_iff_le] at h3
  · have hB1 : B < 4294967296 := by have := lt_pw_size B; rw [show size B = 1 by omega] at this; exact this
    have hd : digit B 0 = B := by rw [digit, pw_zero, Nat.div_one, Nat.mod_eq_of_lt hB1]
    have hr : A % B < B := Nat.mod_lt _ hB0
    have hs := short_ok A B hB0 hB1 (by omega)
    have hf := FromUint64_ok (A % B) (by omega)
    conv => whnf
    refine ⟨(by (try simp only [true_and, and_true, Nat.sub_zero, Nat.zero_add, Int.toNat_natCast]) <;> omega), ?_⟩
    conv => whnf
    refine callF hs ⟨.refl _, .int_of (congrArg _ hd), trivial⟩ (by trivial) rfl ?_
    conv => whnf
    refine sumu64 (A % B) rfl (by omega) ?_
    conv => whnf
    refine callF hf ⟨.refl _, trivial⟩ (by trivial) rfl ?_
    conv => whnf
    refine ⟨(by (try simp only [true_and, and_true, Nat.sub_zero, Nat.zero_add, Int.toNat_natCast]) <;> omega), ?_⟩
    exact .refl _
  · have hl := hlong (by omega) hle
    conv => whnf
    refine callF hl ⟨.refl _, .refl _, trivial⟩ (by trivial) rfl ?_
    conv => whnf
    refine ⟨(by (try simp only [true_and, and_true, Nat.sub_zero, Nat.zero_add, Int.toNat_natCast]) <;> omega), ?_⟩
    exact .refl _
end Go.Abs

/- Natural numbers: GCD. -/
set_option autoImplicit false
set_option maxHeartbeats 4000000
set_option linter.unusedVariables false
set_option linter.unusedSimpArgs false
namespace Go.Abs
open Go Go.Proofs

theorem gcd_step (a b : Nat) : Nat.gcd b (a % b) = Nat.gcd a b := by rw [Nat.gcd_comm b, ← Nat.gcd_rec, Nat.gcd_comm]
theorem lt64 {a : Nat} (h : size a ≤ 2) : a < 18446744073709551616 := Nat.lt_of_lt_of_le (lt_pw_size a) (pw_le (j := 2) h)


theorem GCD_gen (g h : Nat → Nat) (n m M : Nat) (hg : Dig g n) (hh : Dig h m) (hn : n ≤ M) (hm : m ≤ M) (hM : M ≤ 4398046511104)
    (hdiv : ∀ a b, size a ≤ M → size b ≤ M → (2 < size b ∨ 2 < size a) → 0 < b → ACall Try.prog 28 [nat a, nat b] (divRes a b)) :
    ACall Try.prog 33 [raw g n, raw h m] (nat (Nat.gcd (nval g n) (nval h m))) := by
  have hA := size_nval hg
  have hB := size_nval hh
  have va := Trim_ok g n hg (by omega)
  have vb := Trim_ok h m hh (by omega)
  generalize nval g n = A at hA va ⊢
  generalize nval h m = B at hB vb ⊢
  refine acall_rule env [0, 1, 4, 6, 8, 10, 28, 40, 53] Try.func33 rfl rfl rfl rfl ?_
  conv => whnf
  refine callF va ⟨.refl _, trivial⟩ (by trivial) rfl ?_
  conv => whnf
  refine callF vb ⟨.refl _, trivial⟩ (by trivial) rfl ?_
  conv => whnf
  refine loop_mod [0, 1] [] [0, 1] []
    (fun μ fr hp => ∃ a b : Nat, fr = [(0, nat a), (1, nat b)] ∧ hp = [] ∧ μ = b + 1 ∧ size a ≤ M ∧ size b ≤ M ∧ Nat.gcd a b = Nat.gcd A B)
    (fun e fr hp => e = .exit 0 ∧ ∃ a b : Nat, fr = [(0, nat a), (1, nat b)] ∧ hp = [] ∧ (b = 0 ∨ size a ≤ 2 ∧ size b ≤ 2) ∧ size a ≤ M ∧ Nat.gcd a b = Nat.gcd A B)
    ⟨_, _, _, _, rfl, .refl _, A, B, rfl, rfl, rfl, by omega, by omega, rfl⟩ ?_ ?_
  · rintro _ _ _ ⟨rfl, a, b, rfl, rfl, h1, h3, h2⟩
    rw [← h2]
    conv => whnf
    refine spl (fun h4 => ?_) (fun h4 => ?_) <;> simp only [decide_eq_true_eq, decide_eq_false_iff_not, Bool.not_eq_true', Bool.not_eq_false', gt_iff_lt, ge_iff_le] at h4
    · have : b = 0 := size_eq_zero.1 (by omega)
      subst this
      rw [Nat.gcd_zero_right]
      conv => whnf
      refine ⟨(by (try simp only [true_and, and_true, Nat.sub_zero, Nat.zero_add, Int.toNat_natCast]) <;> omega), ?_⟩
      exact .refl _
    have hb : b ≠ 0 := fun e => h4 (by rw [e]; rfl)
    have hs : size a ≤ 2 ∧ size b ≤ 2 := h1.resolve_left hb
    have ha64 := lt64 hs.1
    have hb64 := lt64 hs.2
    have ua := Uint64_ok (digit a) (size a) (digit_Dig _ _) (by omega)
    have ub := Uint64_ok (digit b) (size b) (digit_Dig _ _) (by omega)
    rw [nval_digit_size, if_pos ha64] at ua
    rw [nval_digit_size, if_pos hb64] at ub
    conv => whnf
    refine callF ua ⟨.refl _, trivial⟩ (by trivial) rfl ?_
    conv => whnf
    refine callF ub ⟨.refl _, trivial⟩ (by trivial) rfl ?_
    conv => whnf
    refine loop_mod [8, 10] [] [8] []
      (fun μ fr hp => ∃ x y : Nat, fr = [(8, .f (.int .u64 x)), (10, .f (.int .u64 y))] ∧ hp = [] ∧ μ = y + 1 ∧ x < 18446744073709551616 ∧ y < 18446744073709551616 ∧ Nat.gcd x y = Nat.gcd a b)
      (fun e fr hp => e = .exit 2 ∧ fr = [(8, .f (.int .u64 (Nat.gcd a b)))] ∧ hp = [] ∧ Nat.gcd a b < 18446744073709551616)
      ⟨_, _, _, _, rfl, .refl _, a, b, rfl, rfl, rfl, ha64, hb64, rfl⟩ ?_ ?_
    · rintro _ _ _ ⟨rfl, rfl, rfl, hG⟩
      conv => whnf
      refine callF (FromUint64_ok _ hG) ⟨.refl _, trivial⟩ (by trivial) rfl ?_
      conv => whnf
      refine ⟨(by (try simp only [true_and, and_true, Nat.sub_zero, Nat.zero_add, Int.toNat_natCast]) <;> omega), ?_⟩
      exact .refl _
    rintro _ _ _ ⟨x, y, rfl, rfl, rfl, g1, g2, g3⟩
    conv => whnf
    refine spl (fun h5 => ?_) (fun h5 => ?_) <;> simp only [decide_eq_true_eq, decide_eq_false_iff_not, Bool.not_eq_true', Bool.not_eq_false', gt_iff_lt, ge_iff_le] at h5
    · have hlt : x % y < y := Nat.mod_lt _ (by omega)
      conv => whnf
      refine ⟨(by (try simp only [true_and, and_true, Nat.sub_zero, Nat.zero_add, Int.toNat_natCast]) <;> omega), ?_⟩
      conv => whnf
      refine remN ?_
      conv => whnf
      refine ⟨by kernel_rfl, ?_⟩
      conv => whnf
      exact ⟨_, Nat.succ_lt_succ hlt, _, _, _, rfl, .refl _, y, x % y, rfl, rfl, rfl, g2, by omega, by rw [gcd_step]; exact g3⟩
    · have : y = 0 := by omega
      subst this
      rw [Nat.gcd_zero_right] at g3
      conv => whnf
      exact ⟨_, _, _, congrArg (fun t => some ([(8, AV.f (.int .u64 t))], [])) (congrArg _ g3), .refl _, rfl, rfl, rfl, by omega⟩
  rintro _ _ _ ⟨a, b, rfl, rfl, rfl, h1, h2, h3⟩
  conv => whnf
  refine spl (fun h4 => ?_) (fun h4 => ?_) <;> simp only [decide_eq_true_eq, decide_eq_false_iff_not, Bool.not_eq_true', Bool.not_eq_false', gt_iff_lt, ge_iff_le] at h4
  · conv => whnf
    conv => whnf
    have hb0 : 0 < b := by
      rcases Nat.eq_zero_or_pos b with h | h
      · exact absurd (size_eq_zero.2 h) (by omega)
      · exact h
    have hd := hdiv a b h1 h2 (by omega) hb0
    rw [divRes, if_neg (by omega)] at hd
    have hlt : a % b < b := Nat.mod_lt _ hb0
    refine callF hd ⟨.refl _, .refl _, trivial⟩ (by trivial) rfl ?_
    conv => whnf
    exact ⟨_, Nat.succ_lt_succ hlt, _, _, _, rfl, .refl _, b, a % b, rfl, rfl, rfl, h2, Nat.le_trans (size_mono (Nat.le_of_lt hlt)) h2, by rw [gcd_step]; exact h3⟩
  conv => whnf
  refine spl (fun h5 => ?_) (fun h5 => ?_) <;> simp only [decide_eq_true_eq, decide_eq_false_iff_not, Bool.not_eq_true', Bool.not_eq_false', gt_iff_lt, ge_iff_le] at h5
  · conv => whnf
    refine spl (fun h6 => ?_) (fun h6 => ?_) <;> simp only [decide_eq_true_eq, decide_eq_false_iff_not, Bool.not_eq_true', Bool.not_eq_false', gt_iff_lt, ge_iff_le] at h6
    · conv => whnf
      have hb0 : 0 < b := by
        rcases Nat.eq_zero_or_pos b with h | h
        · exact absurd (size_eq_zero.2 h) (by omega)
        · exact h
      have hd := hdiv a b h1 h2 (by omega) hb0
      rw [divRes, if_neg (by omega)] at hd
      have hlt : a % b < b := Nat.mod_lt _ hb0
      refine callF hd ⟨.refl _, .refl _, trivial⟩ (by trivial) rfl ?_
      conv => whnf
      exact ⟨_, Nat.succ_lt_succ hlt, _, _, _, rfl, .refl _, b, a % b, rfl, rfl, rfl, h2, Nat.le_trans (size_mono (Nat.le_of_lt hlt)) h2, by rw [gcd_step]; exact h3⟩
    · conv => whnf
      exact ⟨_, _, _, rfl, .refl _, rfl, a, b, rfl, rfl, .inl (size_eq_zero.1 (by omega)), h1, h3⟩
  · conv => whnf
    exact ⟨_, _, _, rfl, .refl _, rfl, a, b, rfl, rfl, .inr ⟨by omega, by omega⟩, h1, h3⟩
end Go.Abs

/- Natural numbers: Len32, Bits. -/
set_option autoImplicit false
set_option maxHeartbeats 4000000
set_option linter.unusedVariables false
set_option linter.unusedSimpArgs false
namespace Go.Abs
open Go Go.Proofs

def bitlen (N : Nat) : Nat := if N = 0 then 0 else N.log2 + 1
theorem bitlen_le {N k : Nat} (h : N < 2 ^ k) : bitlen N ≤ k := by
  unfold bitlen; split
  · omega
  · rename_i h0; have := (Nat.log2_lt h0).2 h; omega
theorem lt_bitlen {N k : Nat} (h : 2 ^ k ≤ N) : k < bitlen N := by
  unfold bitlen
  have : 0 < 2 ^ k := Nat.two_pow_pos k
  rw [if_neg (by omega)]
  have := (Nat.le_log2 (by omega)).2 h; omega
theorem bitlen_eq {N k : Nat} (h1 : 2 ^ k ≤ N) (h2 : N < 2 ^ (k + 1)) : bitlen N = k + 1 := by
  have := bitlen_le h2; have := lt_bitlen h1; omega
theorem bitlen_div {N : Nat} (k : Nat) (h : 0 < N / 2 ^ k) : bitlen N = bitlen (N / 2 ^ k) + k := by
  have h0 : N / 2 ^ k ≠ 0 := by omega
  have e : bitlen (N / 2 ^ k) = (N / 2 ^ k).log2 + 1 := by unfold bitlen; rw [if_neg h0]
  have h1 := Nat.log2_self_le h0
  have h2 := Nat.lt_log2_self (n := N / 2 ^ k)
  rw [e, show (N / 2 ^ k).log2 + 1 + k = ((N / 2 ^ k).log2 + k) + 1 by omega]
  refine bitlen_eq ?_ ?_
  · rw [Nat.pow_add]; exact Nat.le_trans (Nat.mul_le_mul_right _ h1) (Nat.div_mul_le_self _ _)
  · rw [show (N / 2 ^ k).log2 + k + 1 = (N / 2 ^ k).log2 + 1 + k by omega, Nat.pow_add]
    exact (Nat.div_lt_iff_lt_mul (Nat.two_pow_pos k)).1 h2


theorem Len32_ok (x : Nat) (hx : x < 4294967296) : ACall Try.prog 47 [.f (.int .u32 x)] (.f (.int .i64 (bitlen x))) := by
  refine acall_rule env [0, 2, 4, 8] Try.func47 rfl rfl rfl rfl ?_
  conv => whnf
  refine spl (fun h1 => ?_) (fun h1 => ?_) <;> simp only [decide_eq_true_eq, decide_eq_false_iff_not, Bool.not_eq_true', Bool.not_eq_false', gt_iff_lt, ge_iff_le] at h1
  · conv => whnf
    refine ⟨(by (try simp only [true_and, and_true, Nat.sub_zero, Nat.zero_add, Int.toNat_natCast]) <;> omega), ?_⟩
    conv => whnf
    refine shrN (n := 16) rfl (by decide) ?_
    conv => whnf
    have e1 := bitlen_div (N := x) 16 (by omega)
    refine spl (fun h2 => ?_) (fun h2 => ?_) <;> simp only [decide_eq_true_eq, decide_eq_false_iff_not, Bool.not_eq_true', Bool.not_eq_false', gt_iff_lt, ge_iff_le] at h2
    · have e2 := bitlen_div (N := x / 2 ^ 16) 8 (by omega)
      conv => whnf
      refine ⟨(by (try simp only [true_and, and_true, Nat.sub_zero, Nat.zero_add, Int.toNat_natCast]) <;> omega), ?_⟩
      conv => whnf
      refine shrN (n := 8) rfl (by decide) ?_
      conv => whnf
      refine fit64 (by omega) ?_
      conv => whnf
      have hx8 : x / 2 ^ 16 / 2 ^ 8 < 256 := by omega
      have hle := bitlen_le (N := x / 2 ^ 16 / 2 ^ 8) (k := 8) hx8
      have hm : x / 2 ^ 16 / 2 ^ 8 % 256 = x / 2 ^ 16 / 2 ^ 8 := Nat.mod_eq_of_lt hx8
      conv => whnf
      refine lowu8 ?_
      conv => whnf
      rw [hm]
      refine ⟨⟨Int.natCast_nonneg _, Int.ofNat_lt.2 (Nat.lt_of_lt_of_le hx8 (by decide +kernel))⟩, ?_⟩
      conv => whnf
      refine sumi64 (bitlen (x / 2 ^ 16 / 2 ^ 8)) ?_ (by omega) ?_
      conv => whnf
      · clear hm hle
        generalize x / 2 ^ 16 / 2 ^ 8 = y at hx8
        revert hx8; revert y
        decide +kernel
      refine sumi64 (bitlen x) (by omega) (by omega) ?_
      conv => whnf
      refine ⟨(by (try simp only [true_and, and_true, Nat.sub_zero, Nat.zero_add, Int.toNat_natCast]) <;> omega), ?_⟩
      exact .refl _
    · have hx8 : x / 2 ^ 16 < 256 := by omega
      have hle := bitlen_le (N := x / 2 ^ 16) (k := 8) hx8
      have hm : x / 2 ^ 16 % 256 = x / 2 ^ 16 := Nat.mod_eq_of_lt hx8
      conv => whnf
      refine lowu8 ?_
      conv => whnf
      rw [hm]
      refine ⟨⟨Int.natCast_nonneg _, Int.ofNat_lt.2 (Nat.lt_of_lt_of_le hx8 (by decide +kernel))⟩, ?_⟩
      conv => whnf
      refine sumi64 (bitlen (x / 2 ^ 16)) ?_ (by omega) ?_
      conv => whnf
      · clear hm hle
        generalize x / 2 ^ 16 = y at hx8
        revert hx8; revert y
        decide +kernel
      refine sumi64 (bitlen x) (by omega) (by omega) ?_
      conv => whnf
      refine ⟨(by (try simp only [true_and, and_true, Nat.sub_zero, Nat.zero_add, Int.toNat_natCast]) <;> omega), ?_⟩
      exact .refl _
  · conv => whnf
    refine spl (fun h2 => ?_) (fun h2 => ?_) <;> simp only [decide_eq_true_eq, decide_eq_false_iff_not, Bool.not_eq_true', Bool.not_eq_false', gt_iff_lt, ge_iff_le] at h2
    · have e2 := bitlen_div (N := x) 8 (by omega)
      conv => whnf
      refine ⟨(by (try simp only [true_and, and_true, Nat.sub_zero, Nat.zero_add, Int.toNat_natCast]) <;> omega), ?_⟩
      conv => whnf
      refine shrN (n := 8) rfl (by decide) ?_
      conv => whnf
      refine fit64 (by omega) ?_
      conv => whnf
      have hx8 : x / 2 ^ 8 < 256 := by omega
      have hle := bitlen_le (N := x / 2 ^ 8) (k := 8) hx8
      have hm : x / 2 ^ 8 % 256 = x / 2 ^ 8 := Nat.mod_eq_of_lt hx8
      conv => whnf
      refine lowu8 ?_
      conv => whnf
      rw [hm]
      refine ⟨⟨Int.natCast_nonneg _, Int.ofNat_lt.2 (Nat.lt_of_lt_of_le hx8 (by decide +kernel))⟩, ?_⟩
      conv => whnf
      refine sumi64 (bitlen (x / 2 ^ 8)) ?_ (by omega) ?_
      conv => whnf
      · clear hm hle
        generalize x / 2 ^ 8 = y at hx8
        revert hx8; revert y
        decide +kernel
      refine sumi64 (bitlen x) (by omega) (by omega) ?_
      conv => whnf
      refine ⟨(by (try simp only [true_and, and_true, Nat.sub_zero, Nat.zero_add, Int.toNat_natCast]) <;> omega), ?_⟩
      exact .refl _
    · have hx8 : x < 256 := by omega
      have hle := bitlen_le (N := x) (k := 8) hx8
      have hm : x % 256 = x := Nat.mod_eq_of_lt hx8
      conv => whnf
      refine lowu8 ?_
      conv => whnf
      rw [hm]
      refine ⟨⟨Int.natCast_nonneg _, Int.ofNat_lt.2 (Nat.lt_of_lt_of_le hx8 (by decide +kernel))⟩, ?_⟩
      conv => whnf
      refine sumi64 (bitlen (x)) ?_ (by omega) ?_
      conv => whnf
      · clear hm hle
        generalize x = y at hx8
        revert hx8; revert y
        decide +kernel
      refine sumi64 (bitlen x) (by omega) (by omega) ?_
      conv => whnf
      refine ⟨(by (try simp only [true_and, and_true, Nat.sub_zero, Nat.zero_add, Int.toNat_natCast]) <;> omega), ?_⟩
      exact .refl _

theorem bitlen_size {N n : Nat} (h : size N = n + 1) : bitlen N = 32 * n + bitlen (digit N n) := by
  have h1 := lt_pw_size N; rw [h, pw_succ] at h1
  have h2 := pw_size_le (N := N) (k := n) (by omega)
  have h3 : 0 < N / pw n := Nat.div_pos h2 (pw_pos n)
  have h4 : N / pw n < 4294967296 := by rw [Nat.div_lt_iff_lt_mul (pw_pos n), Nat.mul_comm]; exact h1
  rw [digit, Nat.mod_eq_of_lt h4]
  rw [pw_two] at h3 ⊢
  have := bitlen_div (32 * n) h3
  omega

theorem Bits_ok (g : Nat → Nat) (n : Nat) (hg : Dig g n) (hn : n ≤ 4398046511104) : ACall Try.prog 32 [raw g n] (.f (.int .i64 (bitlen (nval g n)))) := by
  have hA := size_nval hg
  have va := view_ok g n hg hn
  generalize nval g n = A at hA va ⊢
  refine acall_rule env [0, 2, 7] Try.func32 rfl rfl rfl rfl ?_
  conv => whnf
  refine callF va ⟨.refl _, trivial⟩ (by trivial) rfl ?_
  conv => whnf
  refine spl (fun h1 => ?_) (fun h1 => ?_) <;> simp only [decide_eq_true_eq, decide_eq_false_iff_not, Bool.not_eq_true', Bool.not_eq_false', gt_iff_lt, ge_iff_le] at h1
  · have : A = 0 := size_eq_zero.1 (by omega)
    subst this
    conv => whnf
    refine ⟨(by (try simp only [true_and, and_true, Nat.sub_zero, Nat.zero_add, Int.toNat_natCast]) <;> omega), ?_⟩
    exact .refl _
  obtain ⟨k, hk⟩ : ∃ k, size A = k + 1 := ⟨size A - 1, by omega⟩
  have hb := bitlen_size hk
  have hd := digit_lt A k
  have hl := Len32_ok (digit A k) hd
  have hle := bitlen_le (N := digit A k) (k := 32) hd
  conv => whnf
  refine sumi64 k (by omega) (by omega) ?_
  conv => whnf
  refine sumi64 (32 * k) (by omega) (by omega) ?_
  conv => whnf
  refine sumi64 k (by omega) (by omega) ?_
  conv => whnf
  refine ⟨(by (try simp only [true_and, and_true, Nat.sub_zero, Nat.zero_add, Int.toNat_natCast]) <;> omega), ?_⟩
  conv => whnf
  refine callF hl ⟨.refl _, trivial⟩ (by trivial) rfl ?_
  conv => whnf
  refine sumi64 (bitlen A) (by omega) (by omega) ?_
  conv => whnf
  refine ⟨(by (try simp only [true_and, and_true, Nat.sub_zero, Nat.zero_add, Int.toNat_natCast]) <;> omega), ?_⟩
  exact .refl _
end Go.Abs

/- Natural numbers: left, right. -/
set_option autoImplicit false
set_option maxHeartbeats 4000000
set_option linter.unusedVariables false
set_option linter.unusedSimpArgs false
namespace Go.Abs
open Go Go.Proofs

theorem left_ok (A s : Nat) (hs : s < 32) (hA : size A ≤ 4398046511104) :
    RCall Try.prog 48 [nat A, .f (.int .u64 s)] [] (.lsl 2000000 1 1 0 (size A + 1) (some (size A + 1))) [(2000000, 1, .fa 1 (size A + 1) (fun j => [.int .u32 (digit (A * 2 ^ s) j : Nat)]))] := by
  refine rcall_rule env [.lsl 2000000 1 1 0 (size A + 1) (some (size A + 1))] [0, 1, 4, 5, 6, 7, 8, 13, 14, 15, 16] Try.func48 rfl rfl rfl rfl ?_
  conv => whnf
  refine sumi64 (size A + 1) (by omega) (by omega) ?_
  conv => whnf
  refine ⟨(by (try simp only [true_and, and_true, Nat.sub_zero, Nat.zero_add, Int.toNat_natCast]) <;> omega), ?_⟩
  conv => whnf
  refine loop_rule2 [0, 1, 5, 13, 14, 15] [12] (fun k : Nat => ([(0, nat A), (1, .f (.int .u64 s)), (5, .lsl 12 1 1 0 (size A + 1) (some (size A + 1))), (13, nat A), (14, .f (.int .i64 (size A : Nat))), (15, .f (.int .i64 k))], [(12, 1, .fa 1 (size A + 1) (fun j => [.int .u32 (digit ((A % pw k) * 2 ^ s) j : Nat)]))])) (fun k => k ≤ size A) (fun k => size A - k) 0 ⟨_, rfl, ⟨rfl, rfl⟩, .fa fun j hj => ?_, trivial⟩ (Nat.zero_le _) ?_
  · rw [pw_zero, Nat.mod_one, Nat.zero_mul, show digit 0 j = 0 by simp [digit]]; exact .one (.refl _)
  intro k hk
  conv => whnf
  refine spl (fun h1 => ?_) (fun h1 => ?_) <;> simp only [decide_eq_true_eq, decide_eq_false_iff_not, Bool.not_eq_true', Bool.not_eq_false', gt_iff_lt, ge_iff_le] at h1
  · have hx := digit_lt A k
    have h32 := two_pow_le (show s ≤ 32 by omega)
    have hv : digit A k * 2 ^ s < 4294967296 * 4294967296 := Nat.lt_of_le_of_lt (Nat.mul_le_mul_left _ h32) ((Nat.mul_lt_mul_right (by decide)).2 hx)
    obtain ⟨ho, hlt⟩ := shl_or (digit A k) s _ (show s ≤ 32 by omega) (left_low A s k)
    have hdi : digit ((A % pw k) * 2 ^ s) k = (A % pw k) * 2 ^ s / pw k := by rw [digit, Nat.mod_eq_of_lt (Nat.lt_of_lt_of_le (left_low A s k) h32)]
    have hd := digit_lt ((A % pw k) * 2 ^ s) k
    rw [← hdi] at ho hlt
    conv => whnf
    refine ⟨(by (try simp only [true_and, and_true, Nat.sub_zero, Nat.zero_add, Int.toNat_natCast]) <;> omega), ?_⟩
    conv => whnf
    refine sumu64 (digit A k) rfl (by omega) ?_
    conv => whnf
    refine ⟨(by (try simp only [true_and, and_true, Nat.sub_zero, Nat.zero_add, Int.toNat_natCast]) <;> omega), ?_⟩
    conv => whnf
    refine shlN (n := s) (digit A k * 2 ^ s) rfl (by omega) (Nat.mod_eq_of_lt (by omega)) ?_
    conv => whnf
    refine ⟨(by (try simp only [true_and, and_true, Nat.sub_zero, Nat.zero_add, Int.toNat_natCast]) <;> omega), ?_⟩
    conv => whnf
    refine ⟨(by (try simp only [true_and, and_true, Nat.sub_zero, Nat.zero_add, Int.toNat_natCast]) <;> omega), ?_⟩
    conv => whnf
    refine lowu32 ?_
    conv => whnf
    refine orN (digit ((A % pw k) * 2 ^ s) k + digit A k * 2 ^ s % 4294967296) rfl (show _ < 4294967296 by simpa using hd) (show _ < 4294967296 by omega) (by simpa using ho) ?_
    conv => whnf
    refine ⟨(by (try simp only [true_and, and_true, Nat.sub_zero, Nat.zero_add, Int.toNat_natCast]) <;> omega), ?_⟩
    conv => whnf
    refine ⟨(by (try simp only [true_and, and_true, Nat.sub_zero, Nat.zero_add, Int.toNat_natCast]) <;> omega), ?_⟩
    conv => whnf
    refine sumi64 (k + 1) (by omega) (by omega) ?_
    conv => whnf
    refine ⟨(by (try simp only [true_and, and_true, Nat.sub_zero, Nat.zero_add, Int.toNat_natCast]) <;> omega), ?_⟩
    conv => whnf
    refine shr32 (by decide) ?_
    conv => whnf
    refine lowu32 ?_
    conv => whnf
    refine ⟨(by (try simp only [true_and, and_true, Nat.sub_zero, Nat.zero_add, Int.toNat_natCast]) <;> omega), ?_⟩
    conv => whnf
    refine ⟨(by (try simp only [true_and, and_true, Nat.sub_zero, Nat.zero_add, Int.toNat_natCast]) <;> omega), ?_⟩
    conv => whnf
    refine sumi64 (k + 1) (by omega) (by omega) ?_
    conv => whnf
    refine ⟨k + 1, _, rfl, ⟨⟨rfl, rfl⟩, .fa fun j hj => ?_, trivial⟩, by omega, by omega⟩
    rw [upd_set (fun j => digit ((A % pw k) * 2 ^ s) j) _ _ _ rfl, upd_set (fun j => if j = (0 + Int.toNat k) then _ else _) _ _ _ rfl]
    refine .one (.int_of ?_)
    rw [left_digits A s k j hs]
    simp only [Nat.zero_add, Int.toNat_natCast]
    rw [Nat.mod_eq_of_lt (show digit A k * 2 ^ s / 4294967296 < 4294967296 by omega)]
    by_cases e1 : j = k
    · rw [if_neg (by omega), if_pos e1, if_pos e1]
    · rw [if_neg e1, if_neg e1]
  · conv => whnf
    have hk : k = size A := by omega
    subst hk
    refine ⟨[12], ?_⟩
    conv => whnf
    refine ⟨⟨⟨rfl, rfl, .inr rfl⟩, trivial⟩, ⟨⟨(by (try simp only [true_and, and_true, Nat.sub_zero, Nat.zero_add, Int.toNat_natCast]) <;> omega), fun j hj => ?_⟩, trivial⟩, rfl⟩
    rw [mod_size (Nat.le_refl _)]
    refine .one (.int_of ?_)
    rw [Nat.zero_add]


theorem right_ok (A s : Nat) (hs : s < 32) (hA : size A ≤ 4398046511104) :
    ACall Try.prog 49 [nat A, .f (.int .u64 s)] (nat (A / 2 ^ s)) := by
  have hle : size (A / 2 ^ s) ≤ size A := size_mono (Nat.div_le_self _ _)
  have hv := view_ok (digit (A / 2 ^ s)) (size A) (digit_Dig _ _) hA
  rw [nval_digit, mod_size hle] at hv
  refine acall_rule env [0, 1, 4, 5, 6, 7, 8, 12, 13, 14, 15, 25] Try.func49 rfl rfl rfl rfl ?_
  conv => whnf
  refine ⟨(by (try simp only [true_and, and_true, Nat.sub_zero, Nat.zero_add, Int.toNat_natCast]) <;> omega), ?_⟩
  conv => whnf
  refine loop_rule2 [0, 1, 5, 12, 13, 14] [11] (fun k : Nat => ([(0, nat A), (1, .f (.int .u64 s)), (5, .lsl 11 1 1 0 (size A) (some (size A))), (12, nat A), (13, .f (.int .i64 (size A : Nat))), (14, .f (.int .i64 k))], [(11, 1, .fa 1 (size A) (fun j => [.int .u32 ((if j < k then digit (A / 2 ^ s) j else 0 : Nat) : Int)]))])) (fun k => k ≤ size A) (fun k => size A - k) 0 ⟨_, rfl, ⟨rfl, rfl⟩, .fa fun j hj => ?_, trivial⟩ (Nat.zero_le _) ?_
  · rw [if_neg (by omega)]; exact .one (.refl _)
  intro k hk
  conv => whnf
  refine spl (fun h1 => ?_) (fun h1 => ?_) <;> simp only [decide_eq_true_eq, decide_eq_false_iff_not, Bool.not_eq_true', Bool.not_eq_false', gt_iff_lt, ge_iff_le] at h1
  · have hx := digit_lt A k
    have hy := digit_lt A (k + 1)
    have hr := right_digit A s k hs
    conv => whnf
    refine ⟨(by (try simp only [true_and, and_true, Nat.sub_zero, Nat.zero_add, Int.toNat_natCast]) <;> omega), ?_⟩
    conv => whnf
    refine sumu64 (digit A k) rfl (by omega) ?_
    conv => whnf
    refine sumi64 (k + 1) (by omega) (by omega) ?_
    conv => whnf
    refine spl (fun h2 => ?_) (fun h2 => ?_) <;> simp only [decide_eq_true_eq, decide_eq_false_iff_not, Bool.not_eq_true', Bool.not_eq_false', gt_iff_lt, ge_iff_le] at h2
    · conv => whnf
      refine sumi64 (k + 1) (by omega) (by omega) ?_
      conv => whnf
      refine ⟨(by (try simp only [true_and, and_true, Nat.sub_zero, Nat.zero_add, Int.toNat_natCast]) <;> omega), ?_⟩
      conv => whnf
      refine sumu64 (digit A (k + 1)) rfl (by omega) ?_
      conv => whnf
      refine ⟨(by (try simp only [true_and, and_true, Nat.sub_zero, Nat.zero_add, Int.toNat_natCast]) <;> omega), ?_⟩
      conv => whnf
      refine shl32 (digit A (k + 1) * 4294967296) (by omega) ?_
      conv => whnf
      refine orN (digit A k + digit A (k + 1) * 4294967296) rfl (show _ < 18446744073709551616 by omega) (show _ < 18446744073709551616 by omega) (by rw [Nat.or_comm, or_add (n := 32) hx, Nat.add_comm]) ?_
      conv => whnf
      refine ⟨(by (try simp only [true_and, and_true, Nat.sub_zero, Nat.zero_add, Int.toNat_natCast]) <;> omega), ?_⟩
      conv => whnf
      refine shrN (n := s) rfl (by show s ≤ 64; omega) ?_
      conv => whnf
      refine lowu32 ?_
      conv => whnf
      rw [← hr]
      refine ⟨(by (try simp only [true_and, and_true, Nat.sub_zero, Nat.zero_add, Int.toNat_natCast]) <;> omega), ?_⟩
      conv => whnf
      refine ⟨(by (try simp only [true_and, and_true, Nat.sub_zero, Nat.zero_add, Int.toNat_natCast]) <;> omega), ?_⟩
      conv => whnf
      refine sumi64 (k + 1) (by omega) (by omega) ?_
      conv => whnf
      refine ⟨k + 1, _, rfl, ⟨⟨rfl, rfl⟩, .fa fun j hj => ?_, trivial⟩, by omega, by omega⟩
      rw [upd_set (fun j => if j < k then digit (A / 2 ^ s) j else 0) _ _ _ rfl]
      refine .one (.int_of ?_)
      simp only [Nat.zero_add, Int.toNat_natCast]
      by_cases e1 : j = k
      · subst e1; rw [if_pos rfl, if_pos (by omega)]
      · rw [if_neg e1]
        by_cases e2 : j < k
        · rw [if_pos e2, if_pos (by omega)]
        · rw [if_neg e2, if_neg (by omega)]
    · conv => whnf
      have hz : digit A (k + 1) = 0 := digit_zero_of_size (by omega)
      rw [hz, Nat.zero_mul, Nat.add_zero] at hr
      refine ⟨(by (try simp only [true_and, and_true, Nat.sub_zero, Nat.zero_add, Int.toNat_natCast]) <;> omega), ?_⟩
      conv => whnf
      refine shrN (n := s) rfl (by show s ≤ 64; omega) ?_
      conv => whnf
      refine lowu32 ?_
      conv => whnf
      rw [← hr]
      refine ⟨(by (try simp only [true_and, and_true, Nat.sub_zero, Nat.zero_add, Int.toNat_natCast]) <;> omega), ?_⟩
      conv => whnf
      refine ⟨(by (try simp only [true_and, and_true, Nat.sub_zero, Nat.zero_add, Int.toNat_natCast]) <;> omega), ?_⟩
      conv => whnf
      refine sumi64 (k + 1) (by omega) (by omega) ?_
      conv => whnf
      refine ⟨k + 1, _, rfl, ⟨⟨rfl, rfl⟩, .fa fun j hj => ?_, trivial⟩, by omega, by omega⟩
      rw [upd_set (fun j => if j < k then digit (A / 2 ^ s) j else 0) _ _ _ rfl]
      refine .one (.int_of ?_)
      simp only [Nat.zero_add, Int.toNat_natCast]
      by_cases e1 : j = k
      · subst e1; rw [if_pos rfl, if_pos (by omega)]
      · rw [if_neg e1]
        by_cases e2 : j < k
        · rw [if_pos e2, if_pos (by omega)]
        · rw [if_neg e2, if_neg (by omega)]
  · conv => whnf
    have hk : k = size A := by omega
    subst hk
    refine callF hv ⟨.f (.limbs fun j hj => ?_), trivial⟩ (by (try simp only [true_and, and_true, Nat.sub_zero, Nat.zero_add, Int.toNat_natCast]) <;> omega) rfl ?_
    conv => whnf
    rotate_left
    · refine ⟨(by (try simp only [true_and, and_true, Nat.sub_zero, Nat.zero_add, Int.toNat_natCast]) <;> omega), ?_⟩
      exact .refl _
    · simp [hj]
end Go.Abs

/- Natural numbers: estimate, subtract, restore. -/
set_option autoImplicit false
set_option maxHeartbeats 4000000
set_option linter.unusedVariables false
set_option linter.unusedSimpArgs false
namespace Go.Abs
open Go Go.Proofs

theorem digit_cast {W k : Nat} {i : Int} (h : i = (k : Int)) : ((digit W i.toNat : Nat) : Int) = ((digit W k : Nat) : Int) := by subst h; rfl
theorem or32v {a b c v : Nat} {K : Int → Prop} (hc : a * 4294967296 = c) (ha : a < 4294967296) (hb : b < 4294967296) (hv : c + b = v) (hk : K (v : Int)) : LetI (intBitsA .or .u64 (c : Int) (b : Int)) K := by
  subst hc; subst hv; exact or32 ha hb hk
theorem fin_succ (t s2 u0 g rest : Nat) : fin t s2 u0 (g + 1) rest = if 4294967296 ≤ g + 1 ∨ rest * 4294967296 + u0 < (g + 1) * s2 then (if 4294967296 ≤ rest + t then g else fin t s2 u0 g (rest + t)) else g + 1 := rfl
theorem fin_stop {t s2 u0 g rest : Nat} (h : ¬ (4294967296 ≤ g)) (h2 : ¬ (rest * 4294967296 + u0 < g * s2)) : fin t s2 u0 g rest = g := by
  cases g with
  | zero => rfl
  | succ g => rw [fin_succ, if_neg (fun hc => hc.elim h h2)]
theorem fin_go {t s2 u0 g rest : Nat} (hg : 0 < g) (h : 4294967296 ≤ g ∨ rest * 4294967296 + u0 < g * s2) : fin t s2 u0 g rest = if 4294967296 ≤ rest + t then g - 1 else fin t s2 u0 (g - 1) (rest + t) := by
  cases g with
  | zero => omega
  | succ g => rw [fin_succ, if_pos h]; rfl


theorem estimate_ok (V W n : Nat) (hn : n < 4398046511104) (ht : 2147483648 ≤ digit V (n + 1)) (hle : digit W (n + 2) ≤ digit V (n + 1)) :
    ACall Try.prog 52 [raw (digit W) (n + 3), raw (digit V) (n + 2)] (.f (.int .u64 (guess V W n : Nat))) := by
  have ht2 := digit_lt V (n + 1); have hs2 := digit_lt V n; have hu0 := digit_lt W n; have hu1 := digit_lt W (n + 1); have hu2 := digit_lt W (n + 2)
  have e1 : (n + 2 : Nat) - 1 = n + 1 := by omega
  have hnum : (digit W (n + 2) * 4294967296 + digit W (n + 1)) / digit V (n + 1) < 4294967298 := by
    rw [Nat.div_lt_iff_lt_mul (by omega)]; omega
  have hmod : (digit W (n + 2) * 4294967296 + digit W (n + 1)) % digit V (n + 1) < digit V (n + 1) := Nat.mod_lt _ (by omega)
  refine acall_rule env [0, 1, 4, 5, 6, 7, 8, 9, 10, 61, 69] Try.func52 rfl rfl rfl rfl ?_
  conv => whnf
  refine sumi64 (n + 1) (by omega) (by omega) ?_
  conv => whnf
  refine ⟨(by (try simp only [true_and, and_true, Nat.sub_zero, Nat.zero_add, Int.toNat_natCast]) <;> omega), ?_⟩
  conv => whnf
  refine sumu64 (digit V (n + 1)) (digit_cast (by omega)) (by omega) ?_
  conv => whnf
  refine sumi64 n (by omega) (by omega) ?_
  conv => whnf
  refine ⟨(by (try simp only [true_and, and_true, Nat.sub_zero, Nat.zero_add, Int.toNat_natCast]) <;> omega), ?_⟩
  conv => whnf
  refine sumu64 (digit V n) (digit_cast (by omega)) (by omega) ?_
  conv => whnf
  refine ⟨by kernel_rfl, ?_⟩
  conv => whnf
  refine ⟨(by (try simp only [true_and, and_true, Nat.sub_zero, Nat.zero_add, Int.toNat_natCast]) <;> omega), ?_⟩
  conv => whnf
  refine sumu64 (digit W (n + 2)) (digit_cast (by omega)) (by omega) ?_
  conv => whnf
  refine ⟨(by (try simp only [true_and, and_true, Nat.sub_zero, Nat.zero_add, Int.toNat_natCast]) <;> omega), ?_⟩
  conv => whnf
  refine shl32 (digit W (n + 2) * 4294967296) (by omega) ?_
  conv => whnf
  refine sumi64 (n + 1) (by omega) (by omega) ?_
  conv => whnf
  refine ⟨(by (try simp only [true_and, and_true, Nat.sub_zero, Nat.zero_add, Int.toNat_natCast]) <;> omega), ?_⟩
  conv => whnf
  refine sumu64 (digit W (n + 1)) (digit_cast (by omega)) (by omega) ?_
  conv => whnf
  refine or32 (by omega) (by omega) ?_
  conv => whnf
  refine ⟨by kernel_rfl, ?_⟩
  conv => whnf
  refine ⟨(by (try simp only [true_and, and_true, Nat.sub_zero, Nat.zero_add, Int.toNat_natCast]) <;> omega), ?_⟩
  conv => whnf
  refine quou64 (by omega) ?_
  conv => whnf
  refine ⟨(by (try simp only [true_and, and_true, Nat.sub_zero, Nat.zero_add, Int.toNat_natCast]) <;> omega), ?_⟩
  conv => whnf
  refine remN ?_
  conv => whnf
  refine ⟨by kernel_rfl, ?_⟩
  conv => whnf
  generalize hG : guess V W n = G
  unfold guess at hG
  simp only at hG
  refine loop_rule2 [0, 1, 5, 6, 7, 9, 10] [] (fun s : Nat × Nat => ([(0, raw (digit W) (n + 3)), (1, raw (digit V) (n + 2)), (5, .f (.int .i64 ((n + 2 : Nat) : Int))), (6, .f (.int .u64 (digit V (n + 1) : Nat))), (7, .f (.int .u64 (digit V n : Nat))), (9, .f (.int .u64 (s.1 : Nat))), (10, .f (.int .u64 (s.2 : Nat)))], [])) (fun s => fin (digit V (n + 1)) (digit V n) (digit W n) s.1 s.2 = G ∧ s.1 < 4294967298 ∧ s.2 < 4294967296) (fun s => s.1) (_, _) ⟨_, rfl, .refl _⟩ ⟨hG, hnum, by omega⟩ ?_
  rintro ⟨g, rest⟩ ⟨hI, hg, hr⟩
  simp only at hI hg hr ⊢
  conv => whnf
  refine ⟨(by (try simp only [true_and, and_true, Nat.sub_zero, Nat.zero_add, Int.toNat_natCast]) <;> omega), ?_⟩
  conv => whnf
  refine shr32 (by decide) ?_
  conv => whnf
  refine spl (fun h1 => ?_) (fun h1 => ?_) <;> simp only [decide_eq_true_eq, decide_eq_false_iff_not, Bool.not_eq_true', Bool.not_eq_false', gt_iff_lt, ge_iff_le] at h1
  · have hg1 : 0 < g := by omega
    have hf := fin_go (t := digit V (n + 1)) (s2 := digit V n) (u0 := digit W n) (rest := rest) hg1 (.inl (by omega))
    rw [hI] at hf
    conv => whnf
    refine sumu64 (g - 1) (by omega) (by omega) ?_
    conv => whnf
    obtain ⟨r2, hr2⟩ : ∃ r2, rest + digit V (n + 1) = r2 := ⟨_, rfl⟩
    rw [hr2] at hf
    refine sumu64 r2 (by omega) (by omega) ?_
    conv => whnf
    refine ⟨(by (try simp only [true_and, and_true, Nat.sub_zero, Nat.zero_add, Int.toNat_natCast]) <;> omega), ?_⟩
    conv => whnf
    refine shr32 (by decide) ?_
    conv => whnf
    refine spl (fun h4 => ?_) (fun h4 => ?_) <;> simp only [decide_eq_true_eq, decide_eq_false_iff_not, Bool.not_eq_true', Bool.not_eq_false', gt_iff_lt, ge_iff_le] at h4
    · rw [if_pos (by omega)] at hf
      conv => whnf
      refine ⟨(by (try simp only [true_and, and_true, Nat.sub_zero, Nat.zero_add, Int.toNat_natCast]) <;> omega), ?_⟩
      exact .int_of (by rw [hf])
    · rw [if_neg (by omega)] at hf
      conv => whnf
      exact ⟨(g - 1, r2), _, rfl, .refl _, ⟨hf.symm, by simp only; omega, by simp only; omega⟩, by simp only; omega⟩
  · have hg2 : g < 4294967296 := by omega
    have hm : g * digit V n ≤ 4294967295 * 4294967295 := Nat.mul_le_mul (by omega) (by omega)
    obtain ⟨gm, hgm⟩ : ∃ gm, g * digit V n = gm := ⟨_, rfl⟩
    obtain ⟨r4, hr4⟩ : ∃ r4, rest * 4294967296 = r4 := ⟨_, rfl⟩
    obtain ⟨r5, hr5⟩ : ∃ r5, r4 + digit W n = r5 := ⟨_, rfl⟩
    have hstop := fin_stop (t := digit V (n + 1)) (s2 := digit V n) (u0 := digit W n) (g := g) (rest := rest)
    have hgo := fin_go (t := digit V (n + 1)) (s2 := digit V n) (u0 := digit W n) (g := g) (rest := rest)
    rw [hr4, hr5, hgm, hI] at hstop hgo
    rw [hgm] at hm
    conv => whnf
    refine sumu64 gm (by rw [← hgm]; simp) (by omega) ?_
    conv => whnf
    refine ⟨(by (try simp only [true_and, and_true, Nat.sub_zero, Nat.zero_add, Int.toNat_natCast]) <;> omega), ?_⟩
    conv => whnf
    refine shl32 r4 (by omega) ?_
    conv => whnf
    refine sumi64 n (by omega) (by omega) ?_
    conv => whnf
    refine ⟨(by (try simp only [true_and, and_true, Nat.sub_zero, Nat.zero_add, Int.toNat_natCast]) <;> omega), ?_⟩
    conv => whnf
    refine sumu64 (digit W n) (digit_cast (by omega)) (by omega) ?_
    conv => whnf
    refine or32v hr4 (by omega) (by omega) hr5 ?_
    conv => whnf
    refine spl (fun h2 => ?_) (fun h2 => ?_) <;> simp only [decide_eq_true_eq, decide_eq_false_iff_not, Bool.not_eq_true', Bool.not_eq_false', gt_iff_lt, ge_iff_le] at h2
    · have h3 := Int.ofNat_lt.1 h2
      have hg1 : 0 < g := by
        rcases Nat.eq_zero_or_pos g with h | h
        · subst h; rw [Nat.zero_mul] at hgm; omega
        · exact h
      have hf := hgo hg1 (.inr h3)
      clear hgo hstop
      conv => whnf
      refine sumu64 (g - 1) (by omega) (by omega) ?_
      conv => whnf
      obtain ⟨r2, hr2⟩ : ∃ r2, rest + digit V (n + 1) = r2 := ⟨_, rfl⟩
      rw [hr2] at hf
      refine sumu64 r2 (by omega) (by omega) ?_
      conv => whnf
      refine ⟨(by (try simp only [true_and, and_true, Nat.sub_zero, Nat.zero_add, Int.toNat_natCast]) <;> omega), ?_⟩
      conv => whnf
      refine shr32 (by decide) ?_
      conv => whnf
      refine spl (fun h4 => ?_) (fun h4 => ?_) <;> simp only [decide_eq_true_eq, decide_eq_false_iff_not, Bool.not_eq_true', Bool.not_eq_false', gt_iff_lt, ge_iff_le] at h4
      · rw [if_pos (by omega)] at hf
        conv => whnf
        refine ⟨(by (try simp only [true_and, and_true, Nat.sub_zero, Nat.zero_add, Int.toNat_natCast]) <;> omega), ?_⟩
        exact .int_of (by rw [hf])
      · rw [if_neg (by omega)] at hf
        conv => whnf
        exact ⟨(g - 1, r2), _, rfl, .refl _, ⟨hf.symm, by simp only; omega, by simp only; omega⟩, by simp only; omega⟩
    · have h3 := hstop (by omega) (fun h => h2 (Int.ofNat_lt.2 h))
      conv => whnf
      refine ⟨(by (try simp only [true_and, and_true, Nat.sub_zero, Nat.zero_add, Int.toNat_natCast]) <;> omega), ?_⟩
      exact .int_of (by rw [h3])
end Go.Abs

/- Natural numbers: subtract, restore. -/
set_option autoImplicit false
set_option maxHeartbeats 4000000
set_option linter.unusedVariables false
set_option linter.unusedSimpArgs false
namespace Go.Abs
open Go Go.Proofs
theorem FVle.bool_of {a b : Bool} (h : a = b) : FVle (.bool a) (.bool b) := h ▸ .refl _

theorem subtract_ok (f : Nat → Nat) (L i V W g n : Nat) (hi : i + n + 1 ≤ L) (hL : L ≤ 4398046511104) (hf : ∀ k, k ≤ n → f (i + k) = digit W k) (hg : g ≤ 4294967296) (hV : V < pw n) (hW : W < pw (n + 1)) :
    RCall Try.prog 53 [.lsl 1000000 1 1 i (n + 1) none, raw (digit V) n, .f (.int .u64 g)] [(1000000, 1, .fa 1 L (fun j => [.int .u32 (f j : Nat)]))]
      (.f (.bool (decide (W < g * V)))) [(1000000, 1, .fa 1 L (fun j => [.int .u32 (wput f i (n + 1) (subW V W g n) j : Nat)]))] := by
  refine rcall_rule env [.f (.bool (decide (W < g * V)))] [0, 1, 2, 6, 7, 8, 9, 10, 11, 12, 13, 14, 15, 16, 17, 18] Try.func53 rfl rfl rfl rfl ?_
  conv => whnf
  refine loop_rule2 [0, 1, 2, 7, 8, 15, 16, 17] [1000000] (fun s : Nat × Nat × Nat × Nat => ([(0, .lsl 1000000 1 1 i (n + 1) none), (1, raw (digit V) n), (2, .f (.int .u64 g)), (7, .f (.int .u64 (s.2.1 : Nat))), (8, .f (.int .u64 (s.2.2.1 : Nat))), (15, raw (digit V) n), (16, .f (.int .i64 (n : Nat))), (17, .f (.int .i64 (s.1 : Nat)))], [(1000000, 1, .fa 1 L (fun j => [.int .u32 (wput f i s.1 s.2.2.2 j : Nat)]))]))
    (fun s => s.1 ≤ n ∧ s.2.1 < 4294967296 ∧ s.2.2.1 < 2 ∧ s.2.2.2 < pw s.1 ∧ s.2.2.2 + g * (V % pw s.1) = W % pw s.1 + (s.2.1 + s.2.2.1) * pw s.1) (fun s => n - s.1) (0, 0, 0, 0) ⟨_, rfl, ⟨rfl, rfl⟩, .fa fun j hj => ?_, trivial⟩ ⟨Nat.zero_le _, by simp, by simp, by simp [pw_zero], by simp [pw_zero, Nat.mod_one]⟩ ?_
  · rw [wput_zero]; exact .one (.refl _)
  rintro ⟨k, cc, b, z⟩ ⟨h1, h2, h3, h4, h5⟩
  simp only at h1 h2 h3 h4 h5 ⊢
  conv => whnf
  refine spl (fun h6 => ?_) (fun h6 => ?_) <;> simp only [decide_eq_true_eq, decide_eq_false_iff_not, Bool.not_eq_true', Bool.not_eq_false', gt_iff_lt, ge_iff_le] at h6
  · have hv := digit_lt V k
    have hx := digit_lt W k
    have hm : g * digit V k ≤ 4294967296 * 4294967295 := Nat.mul_le_mul hg (by omega)
    have hfk : wput f i k z (i + k) = digit W k := by rw [wput_get (Nat.le_refl _), hf k h1]
    obtain ⟨p, hp⟩ : ∃ p, g * digit V k + cc = p := ⟨_, rfl⟩
    obtain ⟨pl, hpl⟩ : ∃ pl, p % 4294967296 = pl := ⟨_, rfl⟩
    obtain ⟨d, hd⟩ : ∃ d, (digit W k + 18446744073709551616 - pl - b) % 18446744073709551616 = d := ⟨_, rfl⟩
    obtain ⟨pr, hpr⟩ : ∃ pr, g * digit V k = pr := ⟨_, rfl⟩
    have hst := subw_step2 (W := W) (V := V) (g := g) (k := k) (c := cc) (b := b) h4 h5 hp hpl hd h3 h2
    rw [hpr] at hm hp
    conv => whnf
    refine ⟨(by (try simp only [true_and, and_true, Nat.sub_zero, Nat.zero_add, Int.toNat_natCast]) <;> omega), ?_⟩
    conv => whnf
    refine sumu64 (digit V k) (by simp) (by omega) ?_
    conv => whnf
    refine sumu64 pr (by rw [← hpr]; simp) (by omega) ?_
    conv => whnf
    refine sumu64 p (by omega) (by omega) ?_
    conv => whnf
    refine ⟨(by (try simp only [true_and, and_true, Nat.sub_zero, Nat.zero_add, Int.toNat_natCast]) <;> omega), ?_⟩
    conv => whnf
    refine shr32 (by decide) ?_
    conv => whnf
    refine ⟨(by (try simp only [true_and, and_true, Nat.sub_zero, Nat.zero_add, Int.toNat_natCast]) <;> omega), ?_⟩
    conv => whnf
    refine ⟨(by (try simp only [true_and, and_true, Nat.sub_zero, Nat.zero_add, Int.toNat_natCast]) <;> omega), ?_⟩
    conv => whnf
    rw [show (i + Int.toNat (k : Nat)) = i + k by omega, hfk]
    refine sumu64 (digit W k) rfl (by omega) ?_
    conv => whnf
    refine lowu32 ?_
    conv => whnf
    rw [hpl]
    refine sumu64 pl rfl (by omega) ?_
    conv => whnf
    obtain ⟨d1, hd1⟩ : ∃ d1, (digit W k + 18446744073709551616 - pl) % 18446744073709551616 = d1 := ⟨_, rfl⟩
    refine modu64 d1 (by omega) ?_
    conv => whnf
    refine modu64 d (by omega) ?_
    conv => whnf
    refine lowu32 ?_
    conv => whnf
    refine ⟨(by (try simp only [true_and, and_true, Nat.sub_zero, Nat.zero_add, Int.toNat_natCast]) <;> omega), ?_⟩
    conv => whnf
    refine ⟨(by (try simp only [true_and, and_true, Nat.sub_zero, Nat.zero_add, Int.toNat_natCast]) <;> omega), ?_⟩
    conv => whnf
    refine ⟨(by (try simp only [true_and, and_true, Nat.sub_zero, Nat.zero_add, Int.toNat_natCast]) <;> omega), ?_⟩
    conv => whnf
    refine shr63 ?_
    conv => whnf
    refine sumi64 (k + 1) (by omega) (by omega) ?_
    conv => whnf
    refine ⟨(k + 1, p / 4294967296, d / 9223372036854775808, z + d % 4294967296 * pw k), _, rfl, ⟨⟨rfl, rfl⟩, .fa fun j hj => ?_, trivial⟩, ⟨by simp only; omega, by simp only; omega, hst.2.2, hst.1, hst.2.1⟩, by simp only; omega⟩
    rw [upd_set (fun j => wput f i k z j) _ _ _ rfl]
    refine .one (.int_of ?_)
    simp only [wput_step h4 (Nat.mod_lt d (show 0 < 4294967296 by decide)), Int.toNat_natCast]
  · have hk : k = n := by omega
    subst hk
    have hx := digit_lt W k
    have hfk : wput f i k z (i + k) = digit W k := by rw [wput_get (Nat.le_refl _), hf k h1]
    obtain ⟨d, hd⟩ : ∃ d, (digit W k + 18446744073709551616 - cc - b) % 18446744073709551616 = d := ⟨_, rfl⟩
    obtain ⟨d1, hd1⟩ : ∃ d1, (digit W k + 18446744073709551616 - cc) % 18446744073709551616 = d1 := ⟨_, rfl⟩
    have hend := subw_end hV hW h4 h5 h3 h2 hd.symm
    conv => whnf
    refine ⟨(by (try simp only [true_and, and_true, Nat.sub_zero, Nat.zero_add, Int.toNat_natCast]) <;> omega), ?_⟩
    conv => whnf
    refine ⟨(by (try simp only [true_and, and_true, Nat.sub_zero, Nat.zero_add, Int.toNat_natCast]) <;> omega), ?_⟩
    conv => whnf
    rw [show (i + Int.toNat (k : Nat)) = i + k by omega, hfk]
    refine sumu64 (digit W k) rfl (by omega) ?_
    conv => whnf
    refine modu64 d1 (by omega) ?_
    conv => whnf
    refine modu64 d (by omega) ?_
    conv => whnf
    refine lowu32 ?_
    conv => whnf
    refine ⟨(by (try simp only [true_and, and_true, Nat.sub_zero, Nat.zero_add, Int.toNat_natCast]) <;> omega), ?_⟩
    conv => whnf
    refine ⟨(by (try simp only [true_and, and_true, Nat.sub_zero, Nat.zero_add, Int.toNat_natCast]) <;> omega), ?_⟩
    conv => whnf
    refine ⟨(by (try simp only [true_and, and_true, Nat.sub_zero, Nat.zero_add, Int.toNat_natCast]) <;> omega), ?_⟩
    conv => whnf
    refine shr63 ?_
    conv => whnf
    refine ⟨[1000000], ?_⟩
    conv => whnf
    refine ⟨⟨?_, trivial⟩, ⟨⟨(by (try simp only [true_and, and_true, Nat.sub_zero, Nat.zero_add, Int.toNat_natCast]) <;> omega), fun j hj => ?_⟩, trivial⟩, rfl⟩
    · refine .bool_of ?_
      by_cases hq : 9223372036854775808 ≤ d
      · rw [decide_eq_true (hend.1.1 hq), decide_eq_false (show ¬ ((d / 9223372036854775808 : Nat) : Int) = 0 by omega)]; rfl
      · rw [decide_eq_false (fun h => hq (hend.1.2 h)), decide_eq_true (show ((d / 9223372036854775808 : Nat) : Int) = 0 by omega)]; rfl
    · simp only [Nat.zero_add]
      rw [upd_set (fun j => wput f i k z j) _ _ _ rfl]
      refine .one (.int_of ?_)
      simp only [← hend.2, wput_step h4 (Nat.mod_lt d (show 0 < 4294967296 by decide)), Int.toNat_natCast]

theorem restore_ok (f : Nat → Nat) (L i V Z n : Nat) (hi : i + n + 1 ≤ L) (hL : L ≤ 4398046511104) (hf : ∀ k, k ≤ n → f (i + k) = digit Z k) (hV : V < pw n) (hZ : Z < pw (n + 1)) :
    RCall Try.prog 54 [.lsl 1000000 1 1 i (n + 1) none, raw (digit V) n] [(1000000, 1, .fa 1 L (fun j => [.int .u32 (f j : Nat)]))]
      (.tup []) [(1000000, 1, .fa 1 L (fun j => [.int .u32 (wput f i (n + 1) ((Z + V) % pw (n + 1)) j : Nat)]))] := by
  refine rcall_rule env [] [0, 1, 4, 5, 6, 7, 8, 9, 10, 11] Try.func54 rfl rfl rfl rfl ?_
  conv => whnf
  refine loop_rule2 [0, 1, 4, 8, 9, 10] [1000000] (fun s : Nat × Nat × Nat => ([(0, .lsl 1000000 1 1 i (n + 1) none), (1, raw (digit V) n), (4, .f (.int .u64 (s.2.1 : Nat))), (8, raw (digit V) n), (9, .f (.int .i64 (n : Nat))), (10, .f (.int .i64 (s.1 : Nat)))], [(1000000, 1, .fa 1 L (fun j => [.int .u32 (wput f i s.1 s.2.2 j : Nat)]))]))
    (fun s => s.1 ≤ n ∧ s.2.1 < 2 ∧ s.2.2 < pw s.1 ∧ s.2.2 + s.2.1 * pw s.1 = Z % pw s.1 + V % pw s.1) (fun s => n - s.1) (0, 0, 0) ⟨_, rfl, ⟨rfl, rfl⟩, .fa fun j hj => ?_, trivial⟩ ⟨Nat.zero_le _, by simp, by simp [pw_zero], by simp [pw_zero, Nat.mod_one]⟩ ?_
  · rw [wput_zero]; exact .one (.refl _)
  rintro ⟨k, cc, z⟩ ⟨h1, h2, h4, h5⟩
  simp only at h1 h2 h4 h5 ⊢
  conv => whnf
  refine spl (fun h6 => ?_) (fun h6 => ?_) <;> simp only [decide_eq_true_eq, decide_eq_false_iff_not, Bool.not_eq_true', Bool.not_eq_false', gt_iff_lt, ge_iff_le] at h6
  · have hv := digit_lt V k
    have hx := digit_lt Z k
    have hfk : wput f i k z (i + k) = digit Z k := by rw [wput_get (Nat.le_refl _), hf k h1]
    obtain ⟨s, hs⟩ : ∃ s, digit Z k + digit V k + cc = s := ⟨_, rfl⟩
    have hst := addr_step2 (Z := Z) (V := V) h4 h5 hs
    conv => whnf
    refine ⟨(by (try simp only [true_and, and_true, Nat.sub_zero, Nat.zero_add, Int.toNat_natCast]) <;> omega), ?_⟩
    conv => whnf
    refine ⟨(by (try simp only [true_and, and_true, Nat.sub_zero, Nat.zero_add, Int.toNat_natCast]) <;> omega), ?_⟩
    conv => whnf
    refine ⟨(by (try simp only [true_and, and_true, Nat.sub_zero, Nat.zero_add, Int.toNat_natCast]) <;> omega), ?_⟩
    conv => whnf
    rw [show (i + Int.toNat (k : Nat)) = i + k by omega, hfk]
    refine sumu64 (digit Z k) rfl (by omega) ?_
    conv => whnf
    refine sumu64 (digit V k) (by simp) (by omega) ?_
    conv => whnf
    refine sumu64 (digit Z k + digit V k) (by omega) (by omega) ?_
    conv => whnf
    refine sumu64 s (by omega) (by omega) ?_
    conv => whnf
    refine lowu32 ?_
    conv => whnf
    refine ⟨(by (try simp only [true_and, and_true, Nat.sub_zero, Nat.zero_add, Int.toNat_natCast]) <;> omega), ?_⟩
    conv => whnf
    refine ⟨(by (try simp only [true_and, and_true, Nat.sub_zero, Nat.zero_add, Int.toNat_natCast]) <;> omega), ?_⟩
    conv => whnf
    refine ⟨(by (try simp only [true_and, and_true, Nat.sub_zero, Nat.zero_add, Int.toNat_natCast]) <;> omega), ?_⟩
    conv => whnf
    refine shr32 (by decide) ?_
    conv => whnf
    refine sumi64 (k + 1) (by omega) (by omega) ?_
    conv => whnf
    refine ⟨(k + 1, s / 4294967296, z + s % 4294967296 * pw k), _, rfl, ⟨⟨rfl, rfl⟩, .fa fun j hj => ?_, trivial⟩, ⟨by simp only; omega, by simp only; omega, hst.1, hst.2⟩, by simp only; omega⟩
    rw [upd_set (fun j => wput f i k z j) _ _ _ rfl]
    refine .one (.int_of ?_)
    simp only [wput_step h4 (Nat.mod_lt s (show 0 < 4294967296 by decide)), Int.toNat_natCast]
  · have hk : k = n := by omega
    subst hk
    have hx := digit_lt Z k
    have hfk : wput f i k z (i + k) = digit Z k := by rw [wput_get (Nat.le_refl _), hf k h1]
    have hend := addr_end hV hZ h4 h5 h2
    conv => whnf
    refine ⟨(by (try simp only [true_and, and_true, Nat.sub_zero, Nat.zero_add, Int.toNat_natCast]) <;> omega), ?_⟩
    conv => whnf
    refine ⟨(by (try simp only [true_and, and_true, Nat.sub_zero, Nat.zero_add, Int.toNat_natCast]) <;> omega), ?_⟩
    conv => whnf
    rw [show (i + Int.toNat (k : Nat)) = i + k by omega, hfk]
    refine lowu32 ?_
    conv => whnf
    rw [Nat.mod_eq_of_lt (show cc < 4294967296 by omega)]
    refine modu32 ((digit Z k + cc) % 4294967296) (by omega) ?_
    conv => whnf
    refine ⟨(by (try simp only [true_and, and_true, Nat.sub_zero, Nat.zero_add, Int.toNat_natCast]) <;> omega), ?_⟩
    conv => whnf
    refine ⟨(by (try simp only [true_and, and_true, Nat.sub_zero, Nat.zero_add, Int.toNat_natCast]) <;> omega), ?_⟩
    conv => whnf
    refine ⟨[1000000], ?_⟩
    conv => whnf
    refine ⟨trivial, ⟨⟨(by (try simp only [true_and, and_true, Nat.sub_zero, Nat.zero_add, Int.toNat_natCast]) <;> omega), fun j hj => ?_⟩, trivial⟩, rfl⟩
    simp only [Nat.zero_add]
    rw [upd_set (fun j => wput f i k z j) _ _ _ rfl]
    refine .one (.int_of ?_)
    simp only [← hend, wput_step h4 (Nat.mod_lt _ (show 0 < 4294967296 by decide)), Int.toNat_natCast]

theorem LeadingZeros32_ok (x : Nat) (hx : x < 4294967296) : ACall Try.prog 51 [.f (.int .u32 x)] (.f (.int .i64 ((32 - bitlen x : Nat) : Int))) := by
  have hle := bitlen_le (N := x) (k := 32) hx
  refine acall_rule env [0, 2] Try.func51 rfl rfl rfl rfl ?_
  conv => whnf
  refine callF (Len32_ok x hx) ⟨.refl _, trivial⟩ (by trivial) rfl ?_
  conv => whnf
  refine sumi64 (32 - bitlen x) (by omega) (by omega) ?_
  conv => whnf
  refine ⟨(by (try simp only [true_and, and_true, Nat.sub_zero, Nat.zero_add, Int.toNat_natCast]) <;> omega), ?_⟩
  exact .refl _
end Go.Abs

/- Natural numbers: the long division. -/
set_option autoImplicit false
set_option maxHeartbeats 4000000
set_option linter.unusedVariables false
set_option linter.unusedSimpArgs false
namespace Go.Abs
open Go Go.Proofs


theorem long_ok (A B : Nat) (h2 : 2 ≤ size B) (hle : B ≤ A) (hA : size A ≤ 4398046511000) : ACall Try.prog 45 [nat A, nat B] (.tup [nat (A / B), nat (A % B)]) := by
  have hm := size_mono hle
  obtain ⟨n, hn⟩ : ∃ n, size B = n + 2 := ⟨size B - 2, by omega⟩
  obtain ⟨m, hmA⟩ : ∃ m, size A = m := ⟨_, rfl⟩
  have hd := digit_lt B (n + 1)
  have hd0 := digit_top hn
  have hlz := LeadingZeros32_ok (digit B (n + 1)) hd
  have hb : bitlen (digit B (n + 1)) = (digit B (n + 1)).log2 + 1 := by unfold bitlen; rw [if_neg hd0]
  have hb32 := bitlen_le (N := digit B (n + 1)) (k := 32) hd
  obtain ⟨s, hs⟩ : ∃ s, 32 - bitlen (digit B (n + 1)) = s := ⟨_, rfl⟩
  rw [hs] at hlz
  obtain ⟨f1, f2, f3, f4⟩ := long_facts (s := s) hn hmA (by omega) _ (digit B (n + 1)).log2 rfl (Nat.log2_self_le hd0) (Nat.lt_log2_self) (by omega) (by omega)
  have lB := left_ok B s (by omega) (by omega)
  have lA := left_ok A s (by omega) (by omega)
  rw [hmA] at lA
  rw [hn] at lB
  obtain ⟨V, hV⟩ : ∃ V, B * 2 ^ s = V := ⟨_, rfl⟩
  obtain ⟨N, hN⟩ : ∃ N, A * 2 ^ s = N := ⟨_, rfl⟩
  rw [hV] at f1 f2 f3 lB
  rw [hN] at f3 f4 lA
  have eAB : N / V = A / B := by rw [← hN, ← hV, Nat.mul_div_mul_right _ _ (Nat.two_pow_pos s)]
  have eR : N % V / 2 ^ s = A % B := by rw [← hN, ← hV, Nat.mul_mod_mul_right, Nat.mul_div_cancel _ (Nat.two_pow_pos s)]
  have eB : nat B = raw (digit B) (n + 2) := by rw [nat_eq, hn]
  have eA : nat A = raw (digit A) m := by rw [nat_eq, hmA]
  rw [eB] at lB ⊢
  rw [eA] at lA ⊢
  have hnm : n + 2 ≤ m := by omega
  have hN1 : size N ≤ m + 1 := size_le f4
  have hV0 : 0 < V := Nat.lt_of_le_of_lt (Nat.zero_le _) f3
  refine acall_rule env [0, 1, 4, 5, 6, 7, 8, 9, 10, 11, 12, 13, 38, 39, 40, 64] Try.func45 rfl rfl rfl rfl ?_
  conv => whnf
  refine sumi64 (n + 1) (by omega) (by omega) ?_
  conv => whnf
  refine ⟨(by (try simp only [true_and, and_true, Nat.sub_zero, Nat.zero_add, Int.toNat_natCast]) <;> omega), ?_⟩
  conv => whnf
  refine callF hlz ⟨.int_of (digit_cast (by omega)), trivial⟩ (by trivial) rfl ?_
  conv => whnf
  refine sumu64 s rfl (by omega) ?_
  conv => whnf
  refine callR [] lB ?_
  conv => whnf
  refine ⟨⟨.refl _, .refl _, trivial⟩, trivial, ?_⟩
  conv => whnf
  refine ⟨(by (try simp only [true_and, and_true, Nat.sub_zero, Nat.zero_add, Int.toNat_natCast]) <;> omega), ?_⟩
  conv => whnf
  refine callR [] lA ?_
  conv => whnf
  refine ⟨⟨.refl _, .refl _, trivial⟩, trivial, ?_⟩
  conv => whnf
  refine sumi64 (m - (n + 2)) (by omega) (by omega) ?_
  conv => whnf
  refine sumi64 (m - (n + 2) + 1) (by omega) (by omega) ?_
  conv => whnf
  refine ⟨(by (try simp only [true_and, and_true, Nat.sub_zero, Nat.zero_add, Int.toNat_natCast]) <;> omega), ?_⟩
  conv => whnf
  obtain ⟨D, hD⟩ : ∃ D, m - (n + 2) + 1 = D := ⟨_, rfl⟩
  rw [hD] at f3 ⊢
  refine .weak (freeze_weak 25 1 _ rfl) ?_
  refine loop_rule2 [4, 6, 7, 8, 9, 10, 38, 39] [25, 30, 37] (fun i : Nat => ([(4, .lsl 37 1 1 0 D (some D)), (6, .f (.int .i64 ((n + 2 : Nat) : Int))), (7, .f (.int .u64 s)), (8, .lsl 25 1 1 0 (n + 2) (some (n + 2 + 1))), (9, .lsl 30 1 1 0 (m + 1) (some (m + 1))), (10, .f (.int .i64 D)), (38, .f (.int .i64 D)), (39, .f (.int .i64 i))],
    [(25, 1, .fz 1 (n + 2 + 1) (fun j => [.int .u32 (digit V j : Nat)])), (30, 1, .fa 1 (m + 1) (fun j => [.int .u32 (ubuf N V (D - i) j : Nat)])), (37, 1, .fa 1 D (fun j => [.int .u32 ((if D - i ≤ j then digit (N / V) j else 0 : Nat) : Int)]))]))
    (fun i => i ≤ D) (fun i => D - i) 0 ⟨_, rfl, ⟨rfl, rfl⟩, .refl _, ⟨rfl, rfl⟩, .fa fun j hj => ?_, ⟨rfl, rfl⟩, .fa fun j hj => ?_, trivial⟩ (Nat.zero_le _) ?_
  · rw [Nat.sub_zero, ubuf_start f3]; exact .one (.refl _)
  · rw [if_neg (by omega)]; exact .one (.refl _)
  intro i hi
  conv => whnf
  refine spl (fun h1 => ?_) (fun h1 => ?_) <;> simp only [decide_eq_true_eq, decide_eq_false_iff_not, Bool.not_eq_true', Bool.not_eq_false', gt_iff_lt, ge_iff_le] at h1
  · obtain ⟨j, hj⟩ : ∃ j, D - i = j + 1 := ⟨D - i - 1, by omega⟩
    rw [hj]
    conv => whnf
    refine sumi64 (D - 1) (by omega) (by omega) ?_
    conv => whnf
    refine sumi64 j (by omega) (by omega) ?_
    conv => whnf
    refine sumi64 (j + (n + 2)) (by omega) (by omega) ?_
    conv => whnf
    refine sumi64 (j + (n + 2) + 1) (by omega) (by omega) ?_
    conv => whnf
    refine ⟨(by (try simp only [true_and, and_true, Nat.sub_zero, Nat.zero_add, Int.toNat_natCast]) <;> omega), ?_⟩
    conv => whnf
    obtain ⟨W, hW⟩ : ∃ W, (N / pw (j + 1) % V) * 4294967296 + digit N j = W := ⟨_, rfl⟩
    have hRV : N / pw (j + 1) % V < V := Nat.mod_lt _ hV0
    have hdN := digit_lt N j
    have hWV : W < V * 4294967296 := by
      have := Nat.mul_le_mul_right 4294967296 (show N / pw (j + 1) % V + 1 ≤ V by omega)
      rw [Nat.add_mul] at this; rw [← hW]; omega
    have hWp : W < pw (n + 2 + 1) := by rw [pw_succ]; exact Nat.lt_of_lt_of_le hWV (Nat.mul_le_mul_right _ (Nat.le_of_lt f1))
    have hwin : ∀ k, k ≤ n + 2 → ubuf N V (j + 1) (j + k) = digit W k := fun k hk => by rw [← hW]; exact ubuf_win f1 hk
    obtain ⟨g1, g2, g3, g4⟩ := guess_spec f1 f2 hWV
    have hest := estimate_ok V W n (by omega) f2 (win_top f1 hWV)
    have hsub := subtract_ok (ubuf N V (j + 1)) (m + 1) j V W (guess V W n) (n + 2) (by omega) (by omega) hwin g3 f1 hWp
    obtain ⟨d1, d2⟩ := digit_right hV0 f1 hWV g1 g2
    obtain ⟨g, hg⟩ : ∃ g, guess V W n = g := ⟨_, rfl⟩
    have hqd : W / V = digit (N / V) j := by rw [← hW]; exact (short_step N j hV0).1
    have hput : ∀ k, k < m + 1 → wput (ubuf N V (j + 1)) j (n + 2 + 1) (W % V) k = ubuf N V j k := fun k hk => by rw [← hW]; exact ubuf_put hV0 f1 hk (by omega)
    rw [hg] at hest hsub d1 d2 g2 g3
    refine callB hest ⟨.raw_ofn (by omega) (fun k hk => by show [FV.int IntKind.u32 _] = _; rw [show 0 + Int.toNat (j : Nat) + k = j + k by omega, hwin k (by omega)]), .raw_of (fun k hk => by rw [Nat.zero_add]), trivial⟩ (by (try simp only [true_and, and_true, Nat.sub_zero, Nat.zero_add, Int.toNat_natCast]) <;> omega) rfl ?_
    conv => whnf
    refine sumi64 (j + (n + 2)) (by omega) (by omega) ?_
    conv => whnf
    refine sumi64 (j + (n + 2) + 1) (by omega) (by omega) ?_
    conv => whnf
    refine ⟨(by (try simp only [true_and, and_true, Nat.sub_zero, Nat.zero_add, Int.toNat_natCast]) <;> omega), ?_⟩
    conv => whnf
    refine callR [30] hsub ?_
    conv => whnf
    refine ⟨⟨⟨by omega, by omega, .inl rfl⟩, ⟨(by (try simp only [true_and, and_true, Nat.sub_zero, Nat.zero_add, Int.toNat_natCast]) <;> omega), .limbs fun k hk => by rw [Nat.zero_add]⟩, .refl _, trivial⟩, ⟨⟨by omega, fun k hk => by simp only [Nat.zero_add]; exact .one (.refl _)⟩, trivial⟩, ?_⟩
    conv => whnf
    refine spl (fun h3 => ?_) (fun h3 => ?_) <;> simp only [decide_eq_true_eq, decide_eq_false_iff_not, Bool.not_eq_true', Bool.not_eq_false', gt_iff_lt, ge_iff_le] at h3
    · obtain ⟨d3, d4⟩ := d1 h3
      conv => whnf
      have hres := restore_ok (wput (ubuf N V (j + 1)) j (n + 2 + 1) (subW V W g (n + 2))) (m + 1) j V (subW V W g (n + 2)) (n + 2) (by omega) (by omega) (fun k hk => wput_in (by omega)) f1 (subW_lt hWp)
      rw [d4, wput_wput] at hres
      refine sumu64 (W / V) (by omega) (by omega) ?_
      conv => whnf
      refine sumi64 (j + (n + 2)) (by omega) (by omega) ?_
      conv => whnf
      refine sumi64 (j + (n + 2) + 1) (by omega) (by omega) ?_
      conv => whnf
      refine ⟨(by (try simp only [true_and, and_true, Nat.sub_zero, Nat.zero_add, Int.toNat_natCast]) <;> omega), ?_⟩
      conv => whnf
      refine callR [30] hres ?_
      conv => whnf
      refine ⟨⟨⟨by omega, by omega, .inl rfl⟩, ⟨(by (try simp only [true_and, and_true, Nat.sub_zero, Nat.zero_add, Int.toNat_natCast]) <;> omega), .limbs fun k hk => by rw [Nat.zero_add]⟩, trivial⟩, ⟨⟨by omega, fun k hk => by simp only [Nat.zero_add]; exact .one (.refl _)⟩, trivial⟩, ?_⟩
      conv => whnf
      refine lowu32 ?_
      conv => whnf
      refine ⟨(by (try simp only [true_and, and_true, Nat.sub_zero, Nat.zero_add, Int.toNat_natCast]) <;> omega), ?_⟩
      conv => whnf
      refine ⟨(by (try simp only [true_and, and_true, Nat.sub_zero, Nat.zero_add, Int.toNat_natCast]) <;> omega), ?_⟩
      conv => whnf
      refine sumi64 (i + 1) (by omega) (by omega) ?_
      conv => whnf
      refine ⟨i + 1, _, rfl, ⟨⟨rfl, rfl⟩, .refl _, ⟨rfl, rfl⟩, .fa fun k hk => ?_, ⟨rfl, rfl⟩, .fa fun k hk => ?_, trivial⟩, by omega, by omega⟩
      · rw [show D - (i + 1) = j by omega, hput k hk]; exact .one (.refl _)
      · rw [Nat.mod_eq_of_lt g4, hqd, upd_set (fun k => if j + 1 ≤ k then digit (N / V) k else 0) _ _ _ rfl]
        refine .one (.int_of ?_)
        simp only [Nat.zero_add, Int.toNat_natCast]
        rw [show D - (i + 1) = j by omega]
        by_cases e : k = j
        · subst e; rw [if_pos rfl, if_pos (Nat.le_refl _)]
        · rw [if_neg e]
          by_cases e2 : j + 1 ≤ k
          · rw [if_pos e2, if_pos (by omega)]
          · rw [if_neg e2, if_neg (by omega)]
    · obtain ⟨d3, d4⟩ := d2 h3
      rw [d4, d3]
      conv => whnf
      refine lowu32 ?_
      conv => whnf
      refine ⟨(by (try simp only [true_and, and_true, Nat.sub_zero, Nat.zero_add, Int.toNat_natCast]) <;> omega), ?_⟩
      conv => whnf
      refine ⟨(by (try simp only [true_and, and_true, Nat.sub_zero, Nat.zero_add, Int.toNat_natCast]) <;> omega), ?_⟩
      conv => whnf
      refine sumi64 (i + 1) (by omega) (by omega) ?_
      conv => whnf
      refine ⟨i + 1, _, rfl, ⟨⟨rfl, rfl⟩, .refl _, ⟨rfl, rfl⟩, .fa fun k hk => ?_, ⟨rfl, rfl⟩, .fa fun k hk => ?_, trivial⟩, by omega, by omega⟩
      · rw [show D - (i + 1) = j by omega, hput k hk]; exact .one (.refl _)
      · rw [Nat.mod_eq_of_lt g4, hqd, upd_set (fun k => if j + 1 ≤ k then digit (N / V) k else 0) _ _ _ rfl]
        refine .one (.int_of ?_)
        simp only [Nat.zero_add, Int.toNat_natCast]
        rw [show D - (i + 1) = j by omega]
        by_cases e : k = j
        · subst e; rw [if_pos rfl, if_pos (Nat.le_refl _)]
        · rw [if_neg e]
          by_cases e2 : j + 1 ≤ k
          · rw [if_pos e2, if_pos (by omega)]
          · rw [if_neg e2, if_neg (by omega)]
  · have hD0 : D - i = 0 := by omega
    rw [hD0]
    have v1 := view_ok (fun j => if 0 ≤ j then digit (N / V) j else 0) D (fun j hj => by show (if 0 ≤ j then _ else _) < _; rw [if_pos (Nat.zero_le _)]; exact digit_lt _ _) (by omega)
    have e1 : nval (fun j => if 0 ≤ j then digit (N / V) j else 0) D = N / V := by
      rw [nval_congr (h := digit (N / V)) (fun j _ => if_pos (Nat.zero_le _)), nval_digit, Nat.mod_eq_of_lt]
      rw [Nat.div_lt_iff_lt_mul hV0, Nat.mul_comm]
      exact (Nat.div_lt_iff_lt_mul (pw_pos _)).1 f3
    rw [e1] at v1
    rw [← eAB]
    have hNV : N % V < pw (n + 2) := Nat.lt_trans (Nat.mod_lt _ hV0) f1
    have v2 := view_ok (ubuf N V 0) (n + 2) (fun k hk => by rw [ubuf_end]; exact digit_lt _ _) (by omega)
    have e2 : nval (ubuf N V 0) (n + 2) = N % V := by
      rw [nval_congr (h := digit (N % V)) (fun j _ => ubuf_end), nval_digit, Nat.mod_eq_of_lt hNV]
    rw [e2] at v2
    have hr := right_ok (N % V) s (by omega) (by have := size_le hNV; omega)
    rw [eR] at hr
    conv => whnf
    refine callF v1 ⟨.raw_of (fun k hk => by rw [Nat.zero_add]), trivial⟩ (by (try simp only [true_and, and_true, Nat.sub_zero, Nat.zero_add, Int.toNat_natCast]) <;> omega) rfl ?_
    conv => whnf
    refine ⟨(by (try simp only [true_and, and_true, Nat.sub_zero, Nat.zero_add, Int.toNat_natCast]) <;> omega), ?_⟩
    conv => whnf
    refine callF v2 ⟨.raw_ofn (by omega) (fun k hk => by simp only [Nat.zero_add]), trivial⟩ (by (try simp only [true_and, and_true, Nat.sub_zero, Nat.zero_add, Int.toNat_natCast]) <;> omega) rfl ?_
    conv => whnf
    refine callF hr ⟨.refl _, .refl _, trivial⟩ (by (try simp only [true_and, and_true, Nat.sub_zero, Nat.zero_add, Int.toNat_natCast]) <;> omega) rfl ?_
    conv => whnf
    refine ⟨by kernel_rfl, ?_⟩
    conv => whnf
    refine ⟨(by (try simp only [true_and, and_true, Nat.sub_zero, Nat.zero_add, Int.toNat_natCast]) <;> omega), ?_⟩
    exact .refl _
end Go.Abs

/- Natural numbers: DivMod, GCD. -/
set_option autoImplicit false
set_option maxHeartbeats 4000000
set_option linter.unusedVariables false
set_option linter.unusedSimpArgs false
namespace Go.Abs
open Go Go.Proofs

theorem DivMod_ok (g h : Nat → Nat) (n m : Nat) (hg : Dig g n) (hh : Dig h m) (hn : n ≤ 4398046511000) (hm : m ≤ 4398046511000) :
    ACall Try.prog 28 [raw g n, raw h m] (divRes (nval g n) (nval h m)) :=
  DivMod_gen g h n m hg hh (by omega) (by omega) fun h2 hle => long_ok _ _ h2 hle (Nat.le_trans (size_nval hg) hn)
theorem DivMod_nn (A B : Nat) (hA : size A ≤ 4398046511000) (hB : size B ≤ 4398046511000) : ACall Try.prog 28 [nat A, nat B] (divRes A B) := by
  have := DivMod_ok (digit A) (digit B) (size A) (size B) (digit_Dig _ _) (digit_Dig _ _) hA hB
  rw [nval_digit_size, nval_digit_size] at this; exact this
theorem GCD_ok (g h : Nat → Nat) (n m : Nat) (hg : Dig g n) (hh : Dig h m) (hn : n ≤ 4398046511000) (hm : m ≤ 4398046511000) :
    ACall Try.prog 33 [raw g n, raw h m] (nat (Nat.gcd (nval g n) (nval h m))) :=
  GCD_gen g h n m 4398046511000 hg hh hn hm (by omega) fun a b ha hb _ _ => DivMod_nn a b ha hb
end Go.Abs

/- The reference's natural numbers: Trim, Equal, FromUint64, Uint64, Compare. -/
set_option autoImplicit false
set_option maxHeartbeats 4000000
set_option linter.unusedVariables false
set_option linter.unusedSimpArgs false
namespace Go.Abs
open Go Go.Proofs

theorem refTrim_ok (g : Nat → Nat) (n : Nat) (hg : Dig g n) (hn : n ≤ 4398046511104) : ACall Try.prog 20 [raw g n] (nat (nval g n)) := by
  refine acall_rule env [0, 2, 3, 15] Try.func20 rfl rfl rfl rfl ?_
  conv => whnf
  refine loop_mod [0, 3] [] [0, 3] []
    (fun μ fr hp => ∃ s : Int, fr = [(0, raw g n), (3, .f (.int .i64 s))] ∧ hp = [] ∧ μ = s.toNat ∧ 0 ≤ s ∧ s ≤ n ∧ trimLen g s.toNat = trimLen g n)
    (fun e fr hp => e = .exit 0 ∧ fr = [(0, raw g n), (3, .f (.int .i64 (trimLen g n : Nat)))] ∧ hp = [])
    ⟨_, _, _, _, rfl, .refl _, n, rfl, rfl, rfl, by omega, Int.le_refl _, rfl⟩ ?_ ?_
  · rintro _ _ _ ⟨rfl, rfl, rfl⟩
    have hle : trimLen g n ≤ n := by rw [trimLen_eq hg]; exact size_nval hg
    conv => whnf
    refine ⟨(by (try simp only [true_and, and_true, Nat.sub_zero, Nat.zero_add, Int.toNat_natCast]) <;> omega), ?_⟩
    conv => whnf
    refine ⟨⟨(by (try simp only [true_and, and_true, Nat.sub_zero, Nat.zero_add, Int.toNat_natCast]) <;> omega), (by (try simp only [true_and, and_true, Nat.sub_zero, Nat.zero_add, Int.toNat_natCast]) <;> omega), (by (try simp only [true_and, and_true, Nat.sub_zero, Nat.zero_add, Int.toNat_natCast]) <;> omega), room_any (by simp only; omega)⟩, ?_⟩
    conv => whnf
    refine ⟨(by (try simp only [true_and, and_true, Nat.sub_zero, Nat.zero_add, Int.toNat_natCast]) <;> omega), ?_⟩
    exact (AVle.raw_ofn (g := g) (n := trimLen g n) (by omega) (fun j hj => by simp)).trans (nat_of_trim hg)
  rintro _ _ _ ⟨s, rfl, rfl, rfl, h0, hs, hI⟩
  conv => whnf
  refine spl (fun h1 => ?_) (fun h1 => ?_) <;> simp only [decide_eq_true_eq, decide_eq_false_iff_not, Bool.not_eq_true', Bool.not_eq_false', gt_iff_lt, ge_iff_le] at h1
  · conv => whnf
    refine fit64 (by omega) ?_
    conv => whnf
    refine ⟨(by (try simp only [true_and, and_true, Nat.sub_zero, Nat.zero_add, Int.toNat_natCast]) <;> omega), ?_⟩
    conv => whnf
    have ht : trimLen g s.toNat = if g (s - 1).toNat = 0 then trimLen g (s - 1).toNat else s.toNat := by
      rw [show s.toNat = (s - 1).toNat + 1 by omega]; rfl
    refine spl (fun h2 => ?_) (fun h2 => ?_) <;> simp only [decide_eq_true_eq, decide_eq_false_iff_not, Bool.not_eq_true', Bool.not_eq_false', gt_iff_lt, ge_iff_le] at h2
    · conv => whnf
      refine fit64 (by omega) ?_
      conv => whnf
      exact ⟨_, by omega, _, _, _, rfl, .refl _, s - 1, rfl, rfl, rfl, by omega, by omega, by rw [← hI, ht, if_pos (by omega)]⟩
    · conv => whnf
      rw [if_neg (by omega)] at ht
      rw [ht] at hI
      rw [← hI]
      exact ⟨_, _, _, congrArg (fun t => some ([(0, raw g n), (3, AV.f (.int .i64 t))], [])) (show s = (s.toNat : Int) by omega), .refl _, rfl, rfl, rfl⟩
  · conv => whnf
    have : s = 0 := by omega
    subst this
    exact ⟨_, _, _, congrArg (fun t => some ([(0, raw g n), (3, AV.f (.int .i64 t))], [])) (show (0 : Int) = (trimLen g n : Int) by rw [← hI]; rfl), .refl _, rfl, rfl, rfl⟩

theorem refEqual_ok (g h : Nat → Nat) (n m : Nat) (hg : Dig g n) (hh : Dig h m) (hn : n ≤ 4398046511104) :
    ACall Try.prog 18 [raw g n, raw h m] (.f (.bool (decide (n = m ∧ nval g n = nval h m)))) := by
  refine acall_rule env [0, 1, 4, 5, 10, 14, 25] Try.func18 rfl rfl rfl rfl ?_
  conv => whnf
  refine spl (fun h1 => ?_) (fun h1 => ?_) <;> simp only [decide_eq_true_eq, decide_eq_false_iff_not, Bool.not_eq_true', Bool.not_eq_false', gt_iff_lt, ge_iff_le] at h1
  · conv => whnf
    refine ⟨(by (try simp only [true_and, and_true, Nat.sub_zero, Nat.zero_add, Int.toNat_natCast]) <;> omega), ?_⟩
    exact .bool_of (by rw [decide_eq_false]; omega)
  have h1 : n = m := by omega
  subst h1
  conv => whnf
  refine loop_mod [0, 1, 5] [] [4] []
    (fun μ fr hp => ∃ k : Nat, fr = [(0, raw g n), (1, raw h n), (5, .f (.int .i64 k))] ∧ hp = [] ∧ μ = n - k ∧ k ≤ n ∧ ∀ j, j < k → g j = h j)
    (fun e fr hp => (e = .exit 0 ∧ fr = [(4, .top)] ∧ hp = [] ∧ ∀ j, j < n → g j = h j) ∨ (e = .ret ∧ fr = [(4, .f (.bool false))] ∧ hp = [] ∧ nval g n ≠ nval h n))
    ⟨_, _, _, _, rfl, .refl _, 0, rfl, rfl, rfl, by omega, by simp⟩ ?_ ?_
  · rintro _ _ _ (⟨rfl, rfl, rfl, he⟩ | ⟨rfl, rfl, rfl, hne⟩)
    · conv => whnf
      refine ⟨(by (try simp only [true_and, and_true, Nat.sub_zero, Nat.zero_add, Int.toNat_natCast]) <;> omega), ?_⟩
      exact .bool_of (by rw [decide_eq_true]; exact ⟨rfl, nval_congr he⟩)
    · conv => whnf
      refine ⟨(by (try simp only [true_and, and_true, Nat.sub_zero, Nat.zero_add, Int.toNat_natCast]) <;> omega), ?_⟩
      exact .bool_of (by rw [decide_eq_false]; exact fun h => hne h.2)
  rintro _ _ _ ⟨k, rfl, rfl, rfl, hk, he⟩
  conv => whnf
  refine spl (fun h2 => ?_) (fun h2 => ?_) <;> simp only [decide_eq_true_eq, decide_eq_false_iff_not, Bool.not_eq_true', Bool.not_eq_false', gt_iff_lt, ge_iff_le] at h2
  · conv => whnf
    refine ⟨(by (try simp only [true_and, and_true, Nat.sub_zero, Nat.zero_add, Int.toNat_natCast]) <;> omega), ?_⟩
    conv => whnf
    refine ⟨(by (try simp only [true_and, and_true, Nat.sub_zero, Nat.zero_add, Int.toNat_natCast]) <;> omega), ?_⟩
    conv => whnf
    refine ⟨by kernel_rfl, ?_⟩
    conv => whnf
    refine spl (fun h3 => ?_) (fun h3 => ?_) <;> simp only [decide_eq_true_eq, decide_eq_false_iff_not, Bool.not_eq_true', Bool.not_eq_false', gt_iff_lt, ge_iff_le] at h3
    · replace h3 : ¬ ((g k : Nat) : Int) = (h k : Nat) := h3
      conv => whnf
      exact ⟨_, _, _, rfl, .refl _, .inr ⟨rfl, rfl, rfl, fun e => h3 (by rw [nval_inj hg hh e k (by omega)])⟩⟩
    · replace h3 : ((g k : Nat) : Int) = (h k : Nat) := h3
      conv => whnf
      refine sumi64 (k + 1) (by omega) (by omega) ?_
      conv => whnf
      refine ⟨_, ?_, _, _, _, rfl, .refl _, k + 1, rfl, rfl, rfl, by omega, fun j hj => ?_⟩
      · omega
      · by_cases e : j = k
        · subst e; omega
        · exact he j (by omega)
  · conv => whnf
    have : k = n := by omega
    subst this
    exact ⟨_, _, _, rfl, .refl _, .inl ⟨rfl, rfl, rfl, he⟩⟩
end Go.Abs

/- The reference's natural numbers: FromUint64, Uint64, Compare. -/
set_option autoImplicit false
set_option maxHeartbeats 4000000
set_option linter.unusedVariables false
set_option linter.unusedSimpArgs false
namespace Go.Abs
open Go Go.Proofs

theorem refFromUint64_ok (v : Nat) (hv : v < 18446744073709551616) : ACall Try.prog 21 [.f (.int .u64 v)] (nat v) := by
  have h2 : nval (digit v) 2 = v := by rw [nval_digit, Nat.mod_eq_of_lt]; exact hv
  have hv2 := refTrim_ok (digit v) 2 (digit_Dig v 2) (by omega)
  rw [h2] at hv2
  refine acall_rule env [0, 2] Try.func21 rfl rfl rfl rfl ?_
  conv => whnf
  refine lowu32 ?_
  conv => whnf
  refine ⟨(by (try simp only [true_and, and_true, Nat.sub_zero, Nat.zero_add, Int.toNat_natCast]) <;> omega), ?_⟩
  conv => whnf
  refine shr32 (by decide) ?_
  conv => whnf
  refine lowu32 ?_
  conv => whnf
  refine callF hv2 ⟨?_, trivial⟩ ⟨by simp, trivial⟩ rfl ?_
  · refine .f (.sl (fun i hi => ?_) (.inl rfl))
    match i, hi with
    | 0, _ => exact ⟨.int_of (by simp [digit, pw_zero]), trivial⟩
    | 1, _ => exact ⟨.int_of (by simp [digit, pw]), trivial⟩
  conv => whnf
  exact ⟨(by (try simp only [true_and, and_true, Nat.sub_zero, Nat.zero_add, Int.toNat_natCast]) <;> omega), .refl _⟩

theorem refUint64_ok (g : Nat → Nat) (n : Nat) (hg : Dig g n) (hn : n ≤ 4398046511104) : ACall Try.prog 15 [raw g n] (if nval g n < 18446744073709551616 then .tup [.f (.int .u64 (nval g n)), .f (.bool true)] else .tup [.f (.int .u64 0), .f (.bool false)]) := by
  have hs := size_nval hg
  have hv := refTrim_ok g n hg hn
  generalize nval g n = N at hs hv ⊢
  refine acall_rule env [0, 2, 3, 4, 5, 10, 15] Try.func15 rfl rfl rfl rfl ?_
  conv => whnf
  refine callF hv ⟨.refl _, trivial⟩ (by trivial) rfl ?_
  conv => whnf
  refine spl (fun h1 => ?_) (fun h1 => ?_) <;> simp only [decide_eq_true_eq, decide_eq_false_iff_not, Bool.not_eq_true', Bool.not_eq_false', gt_iff_lt, ge_iff_le] at h1
  · conv => whnf
    refine ⟨(by (try simp only [true_and, and_true, Nat.sub_zero, Nat.zero_add, Int.toNat_natCast]) <;> omega), ?_⟩
    rw [if_neg (by intro h; have := size_le (N := N) (n := 2) h; omega)]
    exact .refl _
  have hN : N < 18446744073709551616 := Nat.lt_of_lt_of_le (lt_pw_size N) (pw_le (j := 2) (by omega))
  rw [if_pos hN]
  conv => whnf
  refine fit64 (by omega) ?_
  conv => whnf
  refine loop_rule [0, 4, 5] [] (fun s : Nat × Int => ([(0, nat N), (4, .f (.int .u64 s.1)), (5, .f (.int .i64 s.2))], [])) (fun s => -1 ≤ s.2 ∧ s.2 < size N ∧ s.1 = N / pw (s.2 + 1).toNat) (fun s => (s.2 + 1).toNat) (0, (size N : Int) - 1) rfl ⟨by simp only; omega, by simp only; omega, ?_⟩ ?_
  · simp only
    rw [show ((size N : Int) - 1 + 1).toNat = size N by omega, div_size]
  rintro ⟨v, i⟩ ⟨h2, h3, h4⟩
  simp only at h2 h3 h4 ⊢
  conv => whnf
  refine spl (fun h5 => ?_) (fun h5 => ?_) <;> simp only [decide_eq_true_eq, decide_eq_false_iff_not, Bool.not_eq_true', Bool.not_eq_false', gt_iff_lt, ge_iff_le] at h5
  · conv => whnf
    have e1 : (i + 1).toNat = i.toNat + 1 := by omega
    have hv : v < 4294967296 := by
      rw [h4, e1, pw_succ, ← Nat.div_div_eq_div_mul]
      have := Nat.div_le_self N (pw i.toNat)
      omega
    have hd := digit_lt N i.toNat
    refine ⟨(by (try simp only [true_and, and_true, Nat.sub_zero, Nat.zero_add, Int.toNat_natCast]) <;> omega), ?_⟩
    conv => whnf
    refine shl32 (v * 4294967296) (by omega) ?_
    conv => whnf
    refine ⟨(by (try simp only [true_and, and_true, Nat.sub_zero, Nat.zero_add, Int.toNat_natCast]) <;> omega), ?_⟩
    conv => whnf
    refine fitu64 (by omega) ?_
    conv => whnf
    refine or32 hv hd ?_
    conv => whnf
    refine fit64 (by omega) ?_
    conv => whnf
    refine ⟨(_, _), rfl, ⟨by simp only; omega, by simp only; omega, ?_⟩, by simp only; omega⟩
    simp only
    rw [show (i - 1 + 1).toNat = i.toNat by omega, div_step, h4, e1]
  · conv => whnf
    refine ⟨(by (try simp only [true_and, and_true, Nat.sub_zero, Nat.zero_add, Int.toNat_natCast]) <;> omega), ?_⟩
    have : i = -1 := by omega
    subst this
    rw [h4]
    exact .tup ⟨.int_of (by simp [pw_zero]), .refl _, trivial⟩
theorem refCompare_ok (g h : Nat → Nat) (n m : Nat) (hg : Dig g n) (hh : Dig h m) (hn : n ≤ 4398046511104) (hm : m ≤ 4398046511104) :
    ACall Try.prog 23 [raw g n, raw h m] (.f (.int .i64 (cmp (nval g n) (nval h m)))) := by
  have hA := size_nval hg
  have hB := size_nval hh
  have va := refTrim_ok g n hg hn
  have vb := refTrim_ok h m hh hm
  generalize nval g n = A at hA va ⊢
  generalize nval h m = B at hB vb ⊢
  refine acall_rule env [0, 1, 4, 5, 14, 19, 24, 35, 44] Try.func23 rfl rfl rfl rfl ?_
  conv => whnf
  refine callF va ⟨.refl _, trivial⟩ (by trivial) rfl ?_
  conv => whnf
  refine callF vb ⟨.refl _, trivial⟩ (by trivial) rfl ?_
  conv => whnf
  refine spl (fun h1 => ?_) (fun h1 => ?_) <;> simp only [decide_eq_true_eq, decide_eq_false_iff_not, Bool.not_eq_true', Bool.not_eq_false', gt_iff_lt, ge_iff_le] at h1
  · conv => whnf
    refine spl (fun h2 => ?_) (fun h2 => ?_) <;> simp only [decide_eq_true_eq, decide_eq_false_iff_not, Bool.not_eq_true', Bool.not_eq_false', gt_iff_lt, ge_iff_le] at h2
    · conv => whnf
      refine ⟨(by (try simp only [true_and, and_true, Nat.sub_zero, Nat.zero_add, Int.toNat_natCast]) <;> omega), ?_⟩
      have := lt_of_size (A := A) (B := B) (by omega)
      exact .int_of (by simp [cmp, this])
    · conv => whnf
      refine ⟨(by (try simp only [true_and, and_true, Nat.sub_zero, Nat.zero_add, Int.toNat_natCast]) <;> omega), ?_⟩
      have := lt_of_size (A := B) (B := A) (by omega)
      exact .int_of (by unfold cmp; rw [if_neg (by omega), if_neg (by omega)])
  · conv => whnf
    have hs : size A = size B := by omega
    refine fit64 (by omega) ?_
    conv => whnf
    refine loop_rule [0, 1, 5] [] (fun s : Int => ([(0, nat A), (1, nat B), (5, .f (.int .i64 s))], [])) (fun s => -1 ≤ s ∧ s < size A ∧ A / pw (s + 1).toNat = B / pw (s + 1).toNat) (fun s => (s + 1).toNat) ((size A : Int) - 1) rfl ⟨by omega, by omega, ?_⟩ ?_
    · rw [show ((size A : Int) - 1 + 1).toNat = size A by omega, div_size, hs, div_size]
    rintro i ⟨h2, h3, h4⟩
    conv => whnf
    refine spl (fun h5 => ?_) (fun h5 => ?_) <;> simp only [decide_eq_true_eq, decide_eq_false_iff_not, Bool.not_eq_true', Bool.not_eq_false', gt_iff_lt, ge_iff_le] at h5
    · conv => whnf
      refine ⟨(by (try simp only [true_and, and_true, Nat.sub_zero, Nat.zero_add, Int.toNat_natCast]) <;> omega), ?_⟩
      conv => whnf
      refine ⟨(by (try simp only [true_and, and_true, Nat.sub_zero, Nat.zero_add, Int.toNat_natCast]) <;> omega), ?_⟩
      conv => whnf
      refine ⟨by kernel_rfl, ?_⟩
      have e1 : (i + 1).toNat = i.toNat + 1 := by omega
      rw [e1] at h4
      have da := div_step A i.toNat
      have db := div_step B i.toNat
      rw [h4] at da
      conv => whnf
      refine spl (fun h6 => ?_) (fun h6 => ?_) <;> simp only [decide_eq_true_eq, decide_eq_false_iff_not, Bool.not_eq_true', Bool.not_eq_false', gt_iff_lt, ge_iff_le] at h6
      · conv => whnf
        refine ⟨(by (try simp only [true_and, and_true, Nat.sub_zero, Nat.zero_add, Int.toNat_natCast]) <;> omega), ?_⟩
        have := lt_of_div (A := A) (B := B) (p := pw i.toNat) (by omega)
        exact .int_of (by simp [cmp, this])
      conv => whnf
      refine ⟨(by (try simp only [true_and, and_true, Nat.sub_zero, Nat.zero_add, Int.toNat_natCast]) <;> omega), ?_⟩
      conv => whnf
      refine ⟨(by (try simp only [true_and, and_true, Nat.sub_zero, Nat.zero_add, Int.toNat_natCast]) <;> omega), ?_⟩
      conv => whnf
      refine ⟨by kernel_rfl, ?_⟩
      conv => whnf
      refine spl (fun h7 => ?_) (fun h7 => ?_) <;> simp only [decide_eq_true_eq, decide_eq_false_iff_not, Bool.not_eq_true', Bool.not_eq_false', gt_iff_lt, ge_iff_le] at h7
      · conv => whnf
        refine ⟨(by (try simp only [true_and, and_true, Nat.sub_zero, Nat.zero_add, Int.toNat_natCast]) <;> omega), ?_⟩
        have := lt_of_div (A := B) (B := A) (p := pw i.toNat) (by omega)
        exact .int_of (by unfold cmp; rw [if_neg (by omega), if_neg (by omega)])
      · conv => whnf
        refine fit64 (by omega) ?_
        conv => whnf
        refine ⟨i - 1, rfl, ⟨by omega, by omega, ?_⟩, by omega⟩
        rw [show (i - 1 + 1).toNat = i.toNat by omega]
        omega
    · conv => whnf
      refine ⟨(by (try simp only [true_and, and_true, Nat.sub_zero, Nat.zero_add, Int.toNat_natCast]) <;> omega), ?_⟩
      have : i = -1 := by omega
      subst this
      have h4 : A / pw 0 = B / pw 0 := h4
      rw [pw_zero, Nat.div_one, Nat.div_one] at h4
      exact .int_of (by unfold cmp; rw [if_neg (by omega), if_pos h4])
end Go.Abs

/- The reference's natural numbers: Add, Sub. -/
set_option autoImplicit false
set_option maxHeartbeats 4000000
set_option linter.unusedVariables false
set_option linter.unusedSimpArgs false
namespace Go.Abs
open Go Go.Proofs

theorem raw_le {g : Nat → Nat} {n : Nat} (hg : Dig g n) : AVle (raw g n) (raw (digit (nval g n)) n) :=
  .f (.limbs fun j hj => by rw [digit_nval hg, if_pos hj])
theorem add_end {h : Nat → Nat} {A B c n m : Nat} (hA : size A ≤ n) (hB : size B ≤ m) (hd : Dig h (max n m + 1)) (e : nval h (max n m + 1) + c * pw (max n m + 1) = A % pw (max n m + 1) + B % pw (max n m + 1)) : nval h (max n m + 1) = A + B := by
  rw [mod_size (by omega), mod_size (by omega)] at e
  have h1 := Nat.lt_of_lt_of_le (lt_pw_size A) (pw_le (show size A ≤ max n m by omega))
  have h2 := Nat.lt_of_lt_of_le (lt_pw_size B) (pw_le (show size B ≤ max n m by omega))
  rw [pw_succ] at e
  rcases Nat.eq_zero_or_pos c with rfl | hc
  · omega
  · have := Nat.le_mul_of_pos_left (pw (max n m) * 4294967296) hc; omega


theorem refAdd_aux (A B n m : Nat) (hA : size A ≤ n) (hB : size B ≤ m) (hn : n < 4398046511104) (hm : m < 4398046511104) :
    ACall Try.prog 27 [raw (digit A) n, raw (digit B) m] (nat (A + B)) := by
  refine acall_rule env [0, 1, 4, 5, 6, 7, 18, 24, 35] Try.func27 rfl rfl rfl rfl ?_
  conv => whnf
  refine sumi64 (max n m + 1) (by split <;> omega) (by omega) ?_
  conv => whnf
  refine ⟨(by (try simp only [true_and, and_true, Nat.sub_zero, Nat.zero_add, Int.toNat_natCast]) <;> omega), ?_⟩
  conv => whnf
  refine loop_mod [0, 1, 5, 6, 7] [14] [5] [14]
    (fun μ fr hp => ∃ (h : Nat → Nat) (c k : Nat), fr = [(0, raw (digit A) n), (1, raw (digit B) m), (5, .lsl 14 1 1 0 (max n m + 1) (some (max n m + 1))), (6, .f (.int .u64 c)), (7, .f (.int .i64 k))] ∧ hp = [(14, 1, .fa 1 (max n m + 1) (fun j => [.int .u32 (h j : Nat)]))] ∧ μ = max n m + 1 - k ∧
      k ≤ max n m + 1 ∧ Dig h k ∧ c < 2 ∧ nval h k + c * pw k = A % pw k + B % pw k)
    (fun e fr hp => e = .exit 0 ∧ ∃ h : Nat → Nat, fr = [(5, .lsl 14 1 1 0 (max n m + 1) (some (max n m + 1)))] ∧ hp = [(14, 1, .fa 1 (max n m + 1) (fun j => [.int .u32 (h j : Nat)]))] ∧ Dig h (max n m + 1) ∧ nval h (max n m + 1) = A + B)
    ⟨_, _, _, _, rfl, .refl _, fun _ => 0, 0, 0, rfl, rfl, rfl, Nat.zero_le _, fun j hj => absurd hj (by simp), by simp, by simp [pw_zero, Nat.mod_one, nval_zero]⟩ ?_ ?_
  · rintro _ _ _ ⟨rfl, h, rfl, rfl, h2, h4⟩
    have hv := refTrim_ok _ _ h2 (by omega)
    rw [h4] at hv
    conv => whnf
    refine callF hv ⟨.raw_refl, trivial⟩ (by (try simp only [true_and, and_true, Nat.sub_zero, Nat.zero_add, Int.toNat_natCast]) <;> omega) rfl ?_
    conv => whnf
    refine ⟨(by (try simp only [true_and, and_true, Nat.sub_zero, Nat.zero_add, Int.toNat_natCast]) <;> omega), ?_⟩
    exact .refl _
  rintro _ _ _ ⟨h, c, k, rfl, rfl, rfl, h1, h2, h3, h4⟩
  have hd := digit_lt A k
  have hd2 := digit_lt B k
  conv => whnf
  refine spl (fun h5 => ?_) (fun h5 => ?_) <;> simp only [decide_eq_true_eq, decide_eq_false_iff_not, Bool.not_eq_true', Bool.not_eq_false', gt_iff_lt, ge_iff_le] at h5
  · conv => whnf
    refine spl (fun h6 => ?_) (fun h6 => ?_) <;> simp only [decide_eq_true_eq, decide_eq_false_iff_not, Bool.not_eq_true', Bool.not_eq_false', gt_iff_lt, ge_iff_le] at h6
    · conv => whnf
      refine ⟨(by (try simp only [true_and, and_true, Nat.sub_zero, Nat.zero_add, Int.toNat_natCast]) <;> omega), ?_⟩
      conv => whnf
      refine sumu64 (digit A k) rfl (by omega) ?_
      conv => whnf
      refine sumu64 (c + digit A k) (by omega) (by omega) ?_
      conv => whnf
      refine spl (fun h7 => ?_) (fun h7 => ?_) <;> simp only [decide_eq_true_eq, decide_eq_false_iff_not, Bool.not_eq_true', Bool.not_eq_false', gt_iff_lt, ge_iff_le] at h7
      · conv => whnf
        refine ⟨(by (try simp only [true_and, and_true, Nat.sub_zero, Nat.zero_add, Int.toNat_natCast]) <;> omega), ?_⟩
        conv => whnf
        refine sumu64 (digit B k) rfl (by omega) ?_
        conv => whnf
        refine sumu64 (c + digit A k + digit B k) (by omega) (by omega) ?_
        conv => whnf
        have hstep := add_step h4 (s := c + digit A k + digit B k) (by omega)
        generalize hs : c + digit A k + digit B k = s at hstep ⊢
        refine lowu32 ?_
        conv => whnf
        refine ⟨(by (try simp only [true_and, and_true, Nat.sub_zero, Nat.zero_add, Int.toNat_natCast]) <;> omega), ?_⟩
        conv => whnf
        refine ⟨(by (try simp only [true_and, and_true, Nat.sub_zero, Nat.zero_add, Int.toNat_natCast]) <;> omega), ?_⟩
        conv => whnf
        refine ⟨(by (try simp only [true_and, and_true, Nat.sub_zero, Nat.zero_add, Int.toNat_natCast]) <;> omega), ?_⟩
        conv => whnf
        refine shr32 (by decide) ?_
        conv => whnf
        refine sumi64 (k + 1) (by omega) (by omega) ?_
        conv => whnf
        refine ⟨_, ?_, _, _, _, rfl, ?_, fun j => if j = k then s % 4294967296 else h j, s / 4294967296, k + 1, rfl, rfl, rfl, by omega, Dig_set1 h2 (Nat.mod_lt _ (by decide)), by omega, hstep⟩
        · omega
        · exact ⟨⟨rfl, rfl⟩, .set (by omega) rfl, trivial⟩
      · have hz2 : digit B k = 0 := digit_zero_of_size (by omega)
        conv => whnf
        have hstep := add_step h4 (s := c + digit A k) (by omega)
        generalize hs : c + digit A k = s at hstep ⊢
        refine lowu32 ?_
        conv => whnf
        refine ⟨(by (try simp only [true_and, and_true, Nat.sub_zero, Nat.zero_add, Int.toNat_natCast]) <;> omega), ?_⟩
        conv => whnf
        refine ⟨(by (try simp only [true_and, and_true, Nat.sub_zero, Nat.zero_add, Int.toNat_natCast]) <;> omega), ?_⟩
        conv => whnf
        refine ⟨(by (try simp only [true_and, and_true, Nat.sub_zero, Nat.zero_add, Int.toNat_natCast]) <;> omega), ?_⟩
        conv => whnf
        refine shr32 (by decide) ?_
        conv => whnf
        refine sumi64 (k + 1) (by omega) (by omega) ?_
        conv => whnf
        refine ⟨_, ?_, _, _, _, rfl, ?_, fun j => if j = k then s % 4294967296 else h j, s / 4294967296, k + 1, rfl, rfl, rfl, by omega, Dig_set1 h2 (Nat.mod_lt _ (by decide)), by omega, hstep⟩
        · omega
        · exact ⟨⟨rfl, rfl⟩, .set (by omega) rfl, trivial⟩
    · have hz : digit A k = 0 := digit_zero_of_size (by omega)
      conv => whnf
      refine spl (fun h7 => ?_) (fun h7 => ?_) <;> simp only [decide_eq_true_eq, decide_eq_false_iff_not, Bool.not_eq_true', Bool.not_eq_false', gt_iff_lt, ge_iff_le] at h7
      · conv => whnf
        refine ⟨(by (try simp only [true_and, and_true, Nat.sub_zero, Nat.zero_add, Int.toNat_natCast]) <;> omega), ?_⟩
        conv => whnf
        refine sumu64 (digit B k) rfl (by omega) ?_
        conv => whnf
        refine sumu64 (c + digit B k) (by omega) (by omega) ?_
        conv => whnf
        have hstep := add_step h4 (s := c + digit B k) (by omega)
        generalize hs : c + digit B k = s at hstep ⊢
        refine lowu32 ?_
        conv => whnf
        refine ⟨(by (try simp only [true_and, and_true, Nat.sub_zero, Nat.zero_add, Int.toNat_natCast]) <;> omega), ?_⟩
        conv => whnf
        refine ⟨(by (try simp only [true_and, and_true, Nat.sub_zero, Nat.zero_add, Int.toNat_natCast]) <;> omega), ?_⟩
        conv => whnf
        refine ⟨(by (try simp only [true_and, and_true, Nat.sub_zero, Nat.zero_add, Int.toNat_natCast]) <;> omega), ?_⟩
        conv => whnf
        refine shr32 (by decide) ?_
        conv => whnf
        refine sumi64 (k + 1) (by omega) (by omega) ?_
        conv => whnf
        refine ⟨_, ?_, _, _, _, rfl, ?_, fun j => if j = k then s % 4294967296 else h j, s / 4294967296, k + 1, rfl, rfl, rfl, by omega, Dig_set1 h2 (Nat.mod_lt _ (by decide)), by omega, hstep⟩
        · omega
        · exact ⟨⟨rfl, rfl⟩, .set (by omega) rfl, trivial⟩
      · have hz2 : digit B k = 0 := digit_zero_of_size (by omega)
        conv => whnf
        have hstep := add_step h4 (s := c) (by omega)
        generalize hs : c = s at hstep ⊢
        refine lowu32 ?_
        conv => whnf
        refine ⟨(by (try simp only [true_and, and_true, Nat.sub_zero, Nat.zero_add, Int.toNat_natCast]) <;> omega), ?_⟩
        conv => whnf
        refine ⟨(by (try simp only [true_and, and_true, Nat.sub_zero, Nat.zero_add, Int.toNat_natCast]) <;> omega), ?_⟩
        conv => whnf
        refine ⟨(by (try simp only [true_and, and_true, Nat.sub_zero, Nat.zero_add, Int.toNat_natCast]) <;> omega), ?_⟩
        conv => whnf
        refine shr32 (by decide) ?_
        conv => whnf
        refine sumi64 (k + 1) (by omega) (by omega) ?_
        conv => whnf
        refine ⟨_, ?_, _, _, _, rfl, ?_, fun j => if j = k then s % 4294967296 else h j, s / 4294967296, k + 1, rfl, rfl, rfl, by omega, Dig_set1 h2 (Nat.mod_lt _ (by decide)), by omega, hstep⟩
        · omega
        · exact ⟨⟨rfl, rfl⟩, .set (by omega) rfl, trivial⟩
  · have hk : k = max n m + 1 := by omega
    subst hk
    conv => whnf
    exact ⟨_, _, _, rfl, .refl _, rfl, h, rfl, rfl, h2, add_end hA hB h2 h4⟩

theorem refAdd_ok (g h : Nat → Nat) (n m : Nat) (hg : Dig g n) (hh : Dig h m) (hn : n < 4398046511104) (hm : m < 4398046511104) :
    ACall Try.prog 27 [raw g n, raw h m] (nat (nval g n + nval h m)) :=
  (refAdd_aux _ _ n m (size_nval hg) (size_nval hh) hn hm).args ⟨raw_le hg, raw_le hh, trivial⟩
end Go.Abs

/- The reference's natural numbers: Sub, Mul. -/
set_option autoImplicit false
set_option maxHeartbeats 4000000
set_option linter.unusedVariables false
set_option linter.unusedSimpArgs false
namespace Go.Abs
open Go Go.Proofs

theorem sub_stepg {h : Nat → Nat} {A B c k r q : Nat} (e : nval h k + B % pw k = A % pw k + c * pw k) (hr : r + digit B k + c = digit A k + q * 4294967296) :
    nval (fun j => if j = k then r else h j) (k + 1) + B % pw (k + 1) = A % pw (k + 1) + q * pw (k + 1) := by
  rw [nval_set, mod_step, mod_step, pw_succ]
  grind


theorem refSub_ok (g h : Nat → Nat) (n m : Nat) (hg : Dig g n) (hh : Dig h m) (hn : n ≤ 4398046511104) (hm : m ≤ 4398046511104) :
    ACall Try.prog 25 [raw g n, raw h m] (if nval g n < nval h m then .tup [nat 0, .f (.bool false)] else .tup [nat (nval g n - nval h m), .f (.bool true)]) := by
  have hA := size_nval hg
  have hB := size_nval hh
  have va := refTrim_ok g n hg hn
  have vb := refTrim_ok h m hh hm
  have hc := refCompare_ok g h n m hg hh hn hm
  generalize nval g n = A at hA va hc ⊢
  generalize nval h m = B at hB vb hc ⊢
  refine acall_rule env [0, 1, 4, 5, 6, 7, 8, 9, 10, 14, 25, 32, 47] Try.func25 rfl rfl rfl rfl ?_
  conv => whnf
  refine callF hc ⟨.refl _, .refl _, trivial⟩ (by trivial) rfl ?_
  conv => whnf
  refine spl (fun h1 => ?_) (fun h1 => ?_) <;> simp only [decide_eq_true_eq, decide_eq_false_iff_not, Bool.not_eq_true', Bool.not_eq_false', gt_iff_lt, ge_iff_le] at h1
  · rw [if_pos (cmp_lt.1 h1)]
    conv => whnf
    refine ⟨(by (try simp only [true_and, and_true, Nat.sub_zero, Nat.zero_add, Int.toNat_natCast]) <;> omega), ?_⟩
    exact .tup ⟨.nil_nat, .refl _, trivial⟩
  have hle : B ≤ A := by have := mt cmp_lt.2 h1; omega
  have hsz := size_mono hle
  rw [if_neg (by omega)]
  conv => whnf
  refine callF va ⟨.refl _, trivial⟩ (by trivial) rfl ?_
  conv => whnf
  refine callF vb ⟨.refl _, trivial⟩ (by trivial) rfl ?_
  conv => whnf
  refine ⟨(by (try simp only [true_and, and_true, Nat.sub_zero, Nat.zero_add, Int.toNat_natCast]) <;> omega), ?_⟩
  conv => whnf
  refine loop_mod [0, 1, 6, 7, 8] [21] [6] [21]
    (fun μ fr hp => ∃ (h : Nat → Nat) (c k : Nat), fr = [(0, nat A), (1, nat B), (6, .lsl 21 1 1 0 (size A) (some (size A))), (7, .f (.int .u64 c)), (8, .f (.int .i64 k))] ∧ hp = [(21, 1, .fa 1 (size A) (fun j => [.int .u32 (h j : Nat)]))] ∧ μ = size A - k ∧
      k ≤ size A ∧ Dig h k ∧ c < 2 ∧ nval h k + B % pw k = A % pw k + c * pw k)
    (fun e fr hp => e = .exit 0 ∧ ∃ h : Nat → Nat, fr = [(6, .lsl 21 1 1 0 (size A) (some (size A)))] ∧ hp = [(21, 1, .fa 1 (size A) (fun j => [.int .u32 (h j : Nat)]))] ∧ Dig h (size A) ∧ nval h (size A) = A - B)
    ⟨_, _, _, _, rfl, .refl _, fun _ => 0, 0, 0, rfl, rfl, rfl, Nat.zero_le _, fun j hj => absurd hj (by simp), by simp, by simp [pw_zero, Nat.mod_one, nval_zero]⟩ ?_ ?_
  · rintro _ _ _ ⟨rfl, h, rfl, rfl, h2, h4⟩
    have hv := refTrim_ok _ _ h2 (by omega)
    rw [h4] at hv
    conv => whnf
    refine callF hv ⟨.raw_refl, trivial⟩ (by (try simp only [true_and, and_true, Nat.sub_zero, Nat.zero_add, Int.toNat_natCast]) <;> omega) rfl ?_
    conv => whnf
    refine ⟨(by (try simp only [true_and, and_true, Nat.sub_zero, Nat.zero_add, Int.toNat_natCast]) <;> omega), ?_⟩
    exact .refl _
  rintro _ _ _ ⟨h, c, k, rfl, rfl, rfl, h1, h2, h3, h4⟩
  have hd := digit_lt A k
  have hd2 := digit_lt B k
  conv => whnf
  refine spl (fun h5 => ?_) (fun h5 => ?_) <;> simp only [decide_eq_true_eq, decide_eq_false_iff_not, Bool.not_eq_true', Bool.not_eq_false', gt_iff_lt, ge_iff_le] at h5
  · conv => whnf
    refine spl (fun h6 => ?_) (fun h6 => ?_) <;> simp only [decide_eq_true_eq, decide_eq_false_iff_not, Bool.not_eq_true', Bool.not_eq_false', gt_iff_lt, ge_iff_le] at h6
    · conv => whnf
      refine ⟨(by (try simp only [true_and, and_true, Nat.sub_zero, Nat.zero_add, Int.toNat_natCast]) <;> omega), ?_⟩
      conv => whnf
      refine sumu64 (digit B k) rfl (by omega) ?_
      conv => whnf
      refine sumu64 (c + digit B k) (by omega) (by omega) ?_
      conv => whnf
      refine ⟨(by (try simp only [true_and, and_true, Nat.sub_zero, Nat.zero_add, Int.toNat_natCast]) <;> omega), ?_⟩
      conv => whnf
      refine sumu64 (digit A k) rfl (by omega) ?_
      conv => whnf
      refine spl (fun h7 => ?_) (fun h7 => ?_) <;> simp only [decide_eq_true_eq, decide_eq_false_iff_not, Bool.not_eq_true', Bool.not_eq_false', gt_iff_lt, ge_iff_le] at h7
      · replace h7 : ((digit A k : Nat) : Int) < ((c + digit B k : Nat) : Int) := h7
        conv => whnf
        refine sumu64 (digit A k + 4294967296) (by omega) (by omega) ?_
        conv => whnf
        have hstep := sub_stepg h4 (r := (digit A k + 4294967296 - (c + digit B k)) % 4294967296) (q := 1) (by omega)
        have hlt : (digit A k + 4294967296 - (c + digit B k)) % 4294967296 < 4294967296 := Nat.mod_lt _ (by decide)
        refine sumu64 (digit A k + 4294967296 - (c + digit B k)) (by omega) (by omega) ?_
        conv => whnf
        refine lowu32 ?_
        conv => whnf
        refine ⟨(by (try simp only [true_and, and_true, Nat.sub_zero, Nat.zero_add, Int.toNat_natCast]) <;> omega), ?_⟩
        conv => whnf
        refine ⟨(by (try simp only [true_and, and_true, Nat.sub_zero, Nat.zero_add, Int.toNat_natCast]) <;> omega), ?_⟩
        conv => whnf
        refine sumi64 (k + 1) (by omega) (by omega) ?_
        conv => whnf
        refine ⟨_, ?_, _, _, _, rfl, ?_, fun j => if j = k then (digit A k + 4294967296 - (c + digit B k)) % 4294967296 else h j, 1, k + 1, rfl, rfl, rfl, by omega, Dig_set1 h2 hlt, by omega, hstep⟩
        · omega
        · exact ⟨⟨rfl, rfl⟩, .set (by omega) rfl, trivial⟩
      · replace h7 : ¬ ((digit A k : Nat) : Int) < ((c + digit B k : Nat) : Int) := h7
        conv => whnf
        have hstep := sub_stepg h4 (r := (digit A k - (c + digit B k)) % 4294967296) (q := 0) (by omega)
        have hlt : (digit A k - (c + digit B k)) % 4294967296 < 4294967296 := Nat.mod_lt _ (by decide)
        refine sumu64 (digit A k - (c + digit B k)) (by omega) (by omega) ?_
        conv => whnf
        refine lowu32 ?_
        conv => whnf
        refine ⟨(by (try simp only [true_and, and_true, Nat.sub_zero, Nat.zero_add, Int.toNat_natCast]) <;> omega), ?_⟩
        conv => whnf
        refine ⟨(by (try simp only [true_and, and_true, Nat.sub_zero, Nat.zero_add, Int.toNat_natCast]) <;> omega), ?_⟩
        conv => whnf
        refine sumi64 (k + 1) (by omega) (by omega) ?_
        conv => whnf
        refine ⟨_, ?_, _, _, _, rfl, ?_, fun j => if j = k then (digit A k - (c + digit B k)) % 4294967296 else h j, 0, k + 1, rfl, rfl, rfl, by omega, Dig_set1 h2 hlt, by omega, hstep⟩
        · omega
        · exact ⟨⟨rfl, rfl⟩, .set (by omega) rfl, trivial⟩
    · have hz : digit B k = 0 := digit_zero_of_size (by omega)
      conv => whnf
      refine ⟨(by (try simp only [true_and, and_true, Nat.sub_zero, Nat.zero_add, Int.toNat_natCast]) <;> omega), ?_⟩
      conv => whnf
      refine sumu64 (digit A k) rfl (by omega) ?_
      conv => whnf
      refine spl (fun h7 => ?_) (fun h7 => ?_) <;> simp only [decide_eq_true_eq, decide_eq_false_iff_not, Bool.not_eq_true', Bool.not_eq_false', gt_iff_lt, ge_iff_le] at h7
      · replace h7 : ((digit A k : Nat) : Int) < ((c : Nat) : Int) := h7
        conv => whnf
        refine sumu64 (digit A k + 4294967296) (by omega) (by omega) ?_
        conv => whnf
        have hstep := sub_stepg h4 (r := (digit A k + 4294967296 - (c)) % 4294967296) (q := 1) (by omega)
        have hlt : (digit A k + 4294967296 - (c)) % 4294967296 < 4294967296 := Nat.mod_lt _ (by decide)
        refine sumu64 (digit A k + 4294967296 - (c)) (by omega) (by omega) ?_
        conv => whnf
        refine lowu32 ?_
        conv => whnf
        refine ⟨(by (try simp only [true_and, and_true, Nat.sub_zero, Nat.zero_add, Int.toNat_natCast]) <;> omega), ?_⟩
        conv => whnf
        refine ⟨(by (try simp only [true_and, and_true, Nat.sub_zero, Nat.zero_add, Int.toNat_natCast]) <;> omega), ?_⟩
        conv => whnf
        refine sumi64 (k + 1) (by omega) (by omega) ?_
        conv => whnf
        refine ⟨_, ?_, _, _, _, rfl, ?_, fun j => if j = k then (digit A k + 4294967296 - (c)) % 4294967296 else h j, 1, k + 1, rfl, rfl, rfl, by omega, Dig_set1 h2 hlt, by omega, hstep⟩
        · omega
        · exact ⟨⟨rfl, rfl⟩, .set (by omega) rfl, trivial⟩
      · replace h7 : ¬ ((digit A k : Nat) : Int) < ((c : Nat) : Int) := h7
        conv => whnf
        have hstep := sub_stepg h4 (r := (digit A k - (c)) % 4294967296) (q := 0) (by omega)
        have hlt : (digit A k - (c)) % 4294967296 < 4294967296 := Nat.mod_lt _ (by decide)
        refine sumu64 (digit A k - (c)) (by omega) (by omega) ?_
        conv => whnf
        refine lowu32 ?_
        conv => whnf
        refine ⟨(by (try simp only [true_and, and_true, Nat.sub_zero, Nat.zero_add, Int.toNat_natCast]) <;> omega), ?_⟩
        conv => whnf
        refine ⟨(by (try simp only [true_and, and_true, Nat.sub_zero, Nat.zero_add, Int.toNat_natCast]) <;> omega), ?_⟩
        conv => whnf
        refine sumi64 (k + 1) (by omega) (by omega) ?_
        conv => whnf
        refine ⟨_, ?_, _, _, _, rfl, ?_, fun j => if j = k then (digit A k - (c)) % 4294967296 else h j, 0, k + 1, rfl, rfl, rfl, by omega, Dig_set1 h2 hlt, by omega, hstep⟩
        · omega
        · exact ⟨⟨rfl, rfl⟩, .set (by omega) rfl, trivial⟩
  · have hk : k = size A := by omega
    subst hk
    rw [mod_size (Nat.le_refl _), mod_size hsz] at h4
    conv => whnf
    exact ⟨_, _, _, rfl, .refl _, rfl, h, rfl, rfl, h2, sub_end h2 h4 h3 hle⟩
end Go.Abs

/- The reference's natural numbers: Mul. -/
set_option autoImplicit false
set_option maxHeartbeats 4000000
set_option linter.unusedVariables false
set_option linter.unusedSimpArgs false
namespace Go.Abs
open Go Go.Proofs

theorem mul_zero_at2 {h : Nat → Nat} {A B i m N : Nat} (hB : size B ≤ m) (hd : Dig h N) (e : nval h N = A % pw i * B) (hi : i + m < N) : h (i + m) = 0 := by
  have h1 := digit_nval hd (i + m)
  rw [if_pos hi, e] at h1
  rw [← h1]
  apply digit_zero_of_size
  apply size_le
  rw [pw_add]
  have h2 : A % pw i < pw i := Nat.mod_lt _ (pw_pos i)
  have h3 := Nat.lt_of_lt_of_le (lt_pw_size B) (pw_le hB)
  exact Nat.lt_of_le_of_lt (Nat.mul_le_mul_left _ (Nat.le_of_lt h3)) (Nat.mul_lt_mul_of_pos_right h2 (pw_pos _))
theorem mul_outer2 {h : Nat → Nat} {A B c i m N : Nat} (hB : size B ≤ m) (hi : i + m < N) (hz : h (i + m) = 0) (e : nval h N + c * pw (i + m) = A % pw i * B + digit A i * (B % pw m) * pw i) :
    nval (fun j => if j = i + m then c else h j) N = A % pw (i + 1) * B := by
  have h1 := nval_setg h (i + m) c N hi
  rw [mod_step]
  rw [mod_size hB] at e
  rw [hz] at h1
  grind

theorem refMul_aux (A B n m : Nat) (hA : size A ≤ n) (hB : size B ≤ m) (hn : n + m ≤ 4398046511104) :
    ACall Try.prog 31 [raw (digit A) n, raw (digit B) m] (nat (A * B)) := by
  refine acall_rule env [0, 1, 4, 5, 6, 7, 8, 18, 24] Try.func31 rfl rfl rfl rfl ?_
  conv => whnf
  refine sumi64 (n + m) (by omega) (by omega) ?_
  conv => whnf
  refine ⟨(by (try simp only [true_and, and_true, Nat.sub_zero, Nat.zero_add, Int.toNat_natCast]) <;> omega), ?_⟩
  conv => whnf
  refine loop_mod [0, 1, 5, 6] [14] [5] [14]
    (fun μ fr hp => ∃ (h : Nat → Nat) (i : Nat), fr = [(0, raw (digit A) n), (1, raw (digit B) m), (5, .lsl 14 1 1 0 (n + m) (some (n + m))), (6, .f (.int .i64 i))] ∧ hp = [(14, 1, .fa 1 (n + m) (fun j => [.int .u32 (h j : Nat)]))] ∧ μ = n - i ∧ i ≤ n ∧ Dig h (n + m) ∧ nval h (n + m) = A % pw i * B)
    (fun e fr hp => e = .exit 0 ∧ ∃ h : Nat → Nat, fr = [(5, .lsl 14 1 1 0 (n + m) (some (n + m)))] ∧ hp = [(14, 1, .fa 1 (n + m) (fun j => [.int .u32 (h j : Nat)]))] ∧ Dig h (n + m) ∧ nval h (n + m) = A * B)
    ⟨_, _, _, _, rfl, .refl _, fun _ => 0, 0, rfl, rfl, rfl, Nat.zero_le _, fun j hj => by simp, ?_⟩ ?_ ?_
  · have : ∀ n, nval (fun _ => 0) n = 0 := fun n => by induction n with | zero => rfl | succ n ih => rw [nval_succ, ih, Nat.zero_mul]
    simp [pw_zero, Nat.mod_one, this]
  · rintro _ _ _ ⟨rfl, h, rfl, rfl, g2, g3⟩
    have hv := refTrim_ok _ (n + m) g2 (by omega)
    rw [g3] at hv
    conv => whnf
    refine callF hv ⟨.raw_refl, trivial⟩ (by (try simp only [true_and, and_true, Nat.sub_zero, Nat.zero_add, Int.toNat_natCast]) <;> omega) rfl ?_
    conv => whnf
    refine ⟨(by (try simp only [true_and, and_true, Nat.sub_zero, Nat.zero_add, Int.toNat_natCast]) <;> omega), ?_⟩
    exact .refl _
  rintro _ _ _ ⟨h, i, rfl, rfl, rfl, g1, g2, g3⟩
  conv => whnf
  refine spl (fun h3 => ?_) (fun h3 => ?_) <;> simp only [decide_eq_true_eq, decide_eq_false_iff_not, Bool.not_eq_true', Bool.not_eq_false', gt_iff_lt, ge_iff_le] at h3
  · have hx := digit_lt A i
    have hz := mul_zero_at2 hB g2 g3 (by omega)
    conv => whnf
    refine loop_mod [0, 1, 5, 6, 7, 8] [14] [0, 1, 5, 6, 7] [14]
      (fun μ fr hp => ∃ (f : Nat → Nat) (c k : Nat), fr = [(0, raw (digit A) n), (1, raw (digit B) m), (5, .lsl 14 1 1 0 (n + m) (some (n + m))), (6, .f (.int .i64 i)), (7, .f (.int .u64 c)), (8, .f (.int .i64 k))] ∧ hp = [(14, 1, .fa 1 (n + m) (fun j => [.int .u32 (f j : Nat)]))] ∧
        μ = m - k ∧ k ≤ m ∧ Dig f (n + m) ∧ c < 4294967296 ∧ f (i + m) = 0 ∧ nval f (n + m) + c * pw (i + k) = A % pw i * B + digit A i * (B % pw k) * pw i)
      (fun e fr hp => e = .exit 2 ∧ ∃ (f : Nat → Nat) (c : Nat), fr = [(0, raw (digit A) n), (1, raw (digit B) m), (5, .lsl 14 1 1 0 (n + m) (some (n + m))), (6, .f (.int .i64 i)), (7, .f (.int .u64 c))] ∧ hp = [(14, 1, .fa 1 (n + m) (fun j => [.int .u32 (f j : Nat)]))] ∧
        Dig f (n + m) ∧ c < 4294967296 ∧ f (i + m) = 0 ∧ nval f (n + m) + c * pw (i + m) = A % pw i * B + digit A i * (B % pw m) * pw i)
      ⟨_, _, _, _, rfl, .refl _, h, 0, 0, rfl, rfl, rfl, Nat.zero_le _, g2, by simp, hz, by simp [pw_zero, Nat.mod_one, g3]⟩ ?_ ?_
    · rintro _ _ _ ⟨rfl, f, c, rfl, rfl, f2, f3, f4, f5⟩
      have hstep := mul_outer2 (h := f) (A := A) (c := c) hB (by omega) f4 f5
      conv => whnf
      refine sumi64 (i + m) (by omega) (by omega) ?_
      conv => whnf
      refine sumu32 c rfl (by omega) ?_
      conv => whnf
      refine ⟨(by (try simp only [true_and, and_true, Nat.sub_zero, Nat.zero_add, Int.toNat_natCast]) <;> omega), ?_⟩
      conv => whnf
      refine ⟨(by (try simp only [true_and, and_true, Nat.sub_zero, Nat.zero_add, Int.toNat_natCast]) <;> omega), ?_⟩
      conv => whnf
      refine sumi64 (i + 1) (by omega) (by omega) ?_
      conv => whnf
      refine ⟨_, ?_, _, _, _, rfl, ?_, fun j => if j = i + m then c else f j, i + 1, rfl, rfl, rfl, by omega, Dig_set f2 f3, hstep⟩
      · omega
      · exact ⟨⟨rfl, rfl⟩, .set (by omega) rfl, trivial⟩
    rintro _ _ _ ⟨f, c, k, rfl, rfl, rfl, f1, f2, f3, f4, f5⟩
    conv => whnf
    refine spl (fun h4 => ?_) (fun h4 => ?_) <;> simp only [decide_eq_true_eq, decide_eq_false_iff_not, Bool.not_eq_true', Bool.not_eq_false', gt_iff_lt, ge_iff_le] at h4
    · have hy := digit_lt B k
      have hw := f2 (i + k) (by omega)
      have hb := mul_bound hx hy hw f3
      have hb2 := mul_bound2 hx hy
      conv => whnf
      refine sumi64 (i + k) (by omega) (by omega) ?_
      conv => whnf
      refine ⟨(by (try simp only [true_and, and_true, Nat.sub_zero, Nat.zero_add, Int.toNat_natCast]) <;> omega), ?_⟩
      conv => whnf
      refine ⟨(by (try simp only [true_and, and_true, Nat.sub_zero, Nat.zero_add, Int.toNat_natCast]) <;> omega), ?_⟩
      conv => whnf
      refine sumu64 (f (i + k)) (congrArg (fun t => ((f t : Nat) : Int)) (by omega)) (by omega) ?_
      conv => whnf
      refine ⟨(by (try simp only [true_and, and_true, Nat.sub_zero, Nat.zero_add, Int.toNat_natCast]) <;> omega), ?_⟩
      conv => whnf
      refine sumu64 (digit A i) rfl (by omega) ?_
      conv => whnf
      refine ⟨(by (try simp only [true_and, and_true, Nat.sub_zero, Nat.zero_add, Int.toNat_natCast]) <;> omega), ?_⟩
      conv => whnf
      refine sumu64 (digit B k) rfl (by omega) ?_
      conv => whnf
      refine sumu64 (digit A i * digit B k) (by rw [Int.natCast_mul]) (by omega) ?_
      conv => whnf
      refine sumu64 (f (i + k) + digit A i * digit B k) (by omega) (by omega) ?_
      conv => whnf
      refine sumu64 (c + (f (i + k) + digit A i * digit B k)) (by omega) (by omega) ?_
      conv => whnf
      refine ⟨by kernel_rfl, ?_⟩
      have hstep := mul_inner (h := f) (B := B) (c := c) (i := i) (k := k) (N := n + m) (x := digit A i) (by omega) f5 (s := c + (f (i + k) + digit A i * digit B k)) (by omega)
      generalize hs : c + (f (i + k) + digit A i * digit B k) = s at hstep ⊢
      conv => whnf
      refine sumi64 (i + k) (by omega) (by omega) ?_
      conv => whnf
      refine lowu32 ?_
      conv => whnf
      refine ⟨(by (try simp only [true_and, and_true, Nat.sub_zero, Nat.zero_add, Int.toNat_natCast]) <;> omega), ?_⟩
      conv => whnf
      refine ⟨(by (try simp only [true_and, and_true, Nat.sub_zero, Nat.zero_add, Int.toNat_natCast]) <;> omega), ?_⟩
      conv => whnf
      refine ⟨(by (try simp only [true_and, and_true, Nat.sub_zero, Nat.zero_add, Int.toNat_natCast]) <;> omega), ?_⟩
      conv => whnf
      refine shr32 (by decide) ?_
      conv => whnf
      refine sumi64 (k + 1) (by omega) (by omega) ?_
      conv => whnf
      refine ⟨_, ?_, _, _, _, rfl, ?_, fun j => if j = i + k then s % 4294967296 else f j, s / 4294967296, k + 1, rfl, rfl, rfl, by omega, Dig_set f2 (Nat.mod_lt _ (by decide)), by omega, (if_neg (by omega)).trans f4, hstep⟩
      · omega
      · exact ⟨⟨rfl, rfl⟩, .set (by omega) rfl, trivial⟩
    · have hk : k = m := by omega
      subst hk
      conv => whnf
      exact ⟨_, _, _, rfl, .refl _, rfl, f, c, rfl, rfl, f2, f3, f4, f5⟩
  · have hk : i = n := by omega
    subst hk
    rw [mod_size hA] at g3
    conv => whnf
    exact ⟨_, _, _, rfl, .refl _, rfl, h, rfl, rfl, g2, g3⟩

theorem refMul_ok (g h : Nat → Nat) (n m : Nat) (hg : Dig g n) (hh : Dig h m) (hn : n + m ≤ 4398046511104) :
    ACall Try.prog 31 [raw g n, raw h m] (nat (nval g n * nval h m)) :=
  (refMul_aux _ _ n m (size_nval hg) (size_nval hh) hn).args ⟨raw_le hg, raw_le hh, trivial⟩
end Go.Abs

/- The reference's natural numbers: bit, Bits, DivMod, GCD. -/
set_option autoImplicit false
set_option maxHeartbeats 4000000
set_option linter.unusedVariables false
set_option linter.unusedSimpArgs false
namespace Go.Abs
open Go Go.Proofs

theorem refbit_ok (g : Nat → Nat) (n i : Nat) (hg : Dig g n) (hi : i < 4611686018427387904) : ACall Try.prog 46 [raw g n, .f (.int .i64 i)] (.f (.int .u32 (nval g n / 2 ^ i % 2 : Nat))) := by
  have hA := nval_lt hg
  have hdg := digit_nval hg
  refine acall_rule env [0, 1, 4, 9] Try.func46 rfl rfl rfl rfl ?_
  conv => whnf
  refine ⟨(by (try simp only [true_and, and_true, Nat.sub_zero, Nat.zero_add, Int.toNat_natCast]) <;> omega), ?_⟩
  conv => whnf
  refine quoi64 (b := 32) (by omega) ?_
  conv => whnf
  refine spl (fun h1 => ?_) (fun h1 => ?_) <;> simp only [decide_eq_true_eq, decide_eq_false_iff_not, Bool.not_eq_true', Bool.not_eq_false', gt_iff_lt, ge_iff_le] at h1
  · conv => whnf
    refine ⟨(by (try simp only [true_and, and_true, Nat.sub_zero, Nat.zero_add, Int.toNat_natCast]) <;> omega), ?_⟩
    refine .int_of ?_
    rw [bit_high hA (by omega)]; rfl
  · have h2 : i / 32 < n := by omega
    have e := bit_digit (nval g n) i
    rw [hdg, if_pos h2] at e
    have hgi := hg _ h2
    conv => whnf
    refine ⟨(by (try simp only [true_and, and_true, Nat.sub_zero, Nat.zero_add, Int.toNat_natCast]) <;> omega), ?_⟩
    conv => whnf
    refine quoi64 (b := 32) (by omega) ?_
    conv => whnf
    refine ⟨(by (try simp only [true_and, and_true, Nat.sub_zero, Nat.zero_add, Int.toNat_natCast]) <;> omega), ?_⟩
    conv => whnf
    refine ⟨(by (try simp only [true_and, and_true, Nat.sub_zero, Nat.zero_add, Int.toNat_natCast]) <;> omega), ?_⟩
    conv => whnf
    refine remN (b := 32) ?_
    conv => whnf
    refine sumu64 (i % 32) rfl (by omega) ?_
    conv => whnf
    refine ⟨(by (try simp only [true_and, and_true, Nat.sub_zero, Nat.zero_add, Int.toNat_natCast]) <;> omega), ?_⟩
    conv => whnf
    refine shrN (n := i % 32) rfl (show i % 32 ≤ 32 by omega) ?_
    conv => whnf
    have hle : g (i / 32) / 2 ^ (i % 32) ≤ g (i / 32) := Nat.div_le_self _ _
    refine andN (a := g (i / 32) / 2 ^ (i % 32)) (b := 1) (g (i / 32) / 2 ^ (i % 32) % 2) rfl (show _ < 4294967296 by omega) (by decide) (Nat.and_one_is_mod _) ?_
    conv => whnf
    refine ⟨(by (try simp only [true_and, and_true, Nat.sub_zero, Nat.zero_add, Int.toNat_natCast]) <;> omega), ?_⟩
    refine .int_of ?_
    rw [e]

theorem bitlen_half {v : Nat} (h : 0 < v) : bitlen v = bitlen (v / 2) + 1 := by
  rcases Nat.lt_or_ge v 2 with h1 | h1
  · have : v = 1 := by omega
    subst this; decide
  · exact bitlen_div 1 (by omega)

theorem refBits_ok (g : Nat → Nat) (n : Nat) (hg : Dig g n) (hn : n ≤ 4398046511104) : ACall Try.prog 39 [raw g n] (.f (.int .i64 (bitlen (nval g n)))) := by
  have hA := size_nval hg
  have va := refTrim_ok g n hg hn
  generalize nval g n = A at hA va ⊢
  refine acall_rule env [0, 2, 3, 4, 9, 21] Try.func39 rfl rfl rfl rfl ?_
  conv => whnf
  refine callF va ⟨.refl _, trivial⟩ (by trivial) rfl ?_
  conv => whnf
  refine spl (fun h1 => ?_) (fun h1 => ?_) <;> simp only [decide_eq_true_eq, decide_eq_false_iff_not, Bool.not_eq_true', Bool.not_eq_false', gt_iff_lt, ge_iff_le] at h1
  · have : A = 0 := size_eq_zero.1 (by omega)
    subst this
    conv => whnf
    refine ⟨(by (try simp only [true_and, and_true, Nat.sub_zero, Nat.zero_add, Int.toNat_natCast]) <;> omega), ?_⟩
    exact .refl _
  obtain ⟨k, hk⟩ : ∃ k, size A = k + 1 := ⟨size A - 1, by omega⟩
  have hb := bitlen_size hk
  have hd := digit_lt A k
  have hle := bitlen_le (N := digit A k) (k := 32) hd
  conv => whnf
  refine sumi64 k (by omega) (by omega) ?_
  conv => whnf
  refine sumi64 (32 * k) (by omega) (by omega) ?_
  conv => whnf
  refine sumi64 k (by omega) (by omega) ?_
  conv => whnf
  refine ⟨(by (try simp only [true_and, and_true, Nat.sub_zero, Nat.zero_add, Int.toNat_natCast]) <;> omega), ?_⟩
  conv => whnf
  refine loop_rule2 [3, 4] [] (fun s : Nat × Nat => ([(3, .f (.int .i64 (s.1 : Nat))), (4, .f (.int .u32 (s.2 : Nat)))], [])) (fun s => s.1 + bitlen s.2 = bitlen A ∧ s.2 < 4294967296) (fun s => s.2) (32 * k, digit A k) ⟨_, rfl, .refl _⟩ ⟨hb.symm, hd⟩ ?_
  rintro ⟨c, v⟩ ⟨i1, i2⟩
  simp only at i1 i2 ⊢
  conv => whnf
  refine spl (fun h2 => ?_) (fun h2 => ?_) <;> simp only [decide_eq_true_eq, decide_eq_false_iff_not, Bool.not_eq_true', Bool.not_eq_false', gt_iff_lt, ge_iff_le] at h2
  · have hh := bitlen_half (v := v) (by omega)
    have hv2 := bitlen_le (N := v) (k := 32) i2
    conv => whnf
    refine sumi64 (c + 1) (by omega) (by omega) ?_
    conv => whnf
    refine ⟨(by (try simp only [true_and, and_true, Nat.sub_zero, Nat.zero_add, Int.toNat_natCast]) <;> omega), ?_⟩
    conv => whnf
    refine shrN (n := 1) rfl (by decide) ?_
    conv => whnf
    exact ⟨(c + 1, v / 2 ^ 1), _, rfl, .refl _, ⟨by simp only [Nat.pow_one]; omega, by simp only [Nat.pow_one]; omega⟩, by simp only [Nat.pow_one]; omega⟩
  · have : v = 0 := by omega
    subst this
    conv => whnf
    refine ⟨(by (try simp only [true_and, and_true, Nat.sub_zero, Nat.zero_add, Int.toNat_natCast]) <;> omega), ?_⟩
    refine .int_of ?_
    have : bitlen 0 = 0 := rfl
    omega
end Go.Abs

/- awake, and Equal of canonical lists. -/
set_option autoImplicit false
set_option maxHeartbeats 4000000
set_option linter.unusedVariables false
set_option linter.unusedSimpArgs false
namespace Go.Abs
open Go Go.Proofs

def lim (l : List Nat) (j : Nat) : Nat := l.getD j 0

theorem refEqual_nn (A B : Nat) (h : size A ≤ 4398046511104) : ACall Try.prog 18 [nat A, nat B] (.f (.bool (decide (A = B)))) := by
  have := refEqual_ok (digit A) (digit B) (size A) (size B) (digit_Dig _ _) (digit_Dig _ _) h
  rw [nval_digit_size, nval_digit_size] at this
  refine this.res (.bool_of ?_)
  by_cases e : A = B
  · subst e; simp
  · simp [e]
theorem refEqual_same (A : Nat) (h : size A ≤ 4398046511104) : ACall Try.prog 18 [nat A, nat A] (.f (.bool true)) := by
  have := refEqual_nn A A h
  rwa [decide_eq_true rfl] at this
theorem refEqual_lit (N n : Nat) (l : List Nat) (hs : size N = n) (hg : Dig (lim l) n) (e : nval (lim l) n = N) (h : n ≤ 4398046511104) : ACall Try.prog 18 [nat N, raw (lim l) n] (.f (.bool true)) := by
  have := refEqual_ok (digit N) (lim l) (size N) n (digit_Dig _ _) hg (by omega)
  rw [nval_digit_size, e, decide_eq_true ⟨hs, rfl⟩] at this
  exact this

theorem awake_ok : ACall Try.prog 17 [] (.f (.bool true)) := by
  have s1 := Sub_ok (lim [0, 1]) (lim [1, 0, 0]) 2 3 (by unfold Dig; decide) (by unfold Dig; decide) (by omega) (by omega)
  rw [show nval (lim [0, 1]) 2 = 4294967296 by decide, show nval (lim [1, 0, 0]) 3 = 1 by decide, if_neg (by decide)] at s1
  have s2 := DivMod_gen (lim [0, 0, 1]) (lim [3]) 3 1 (by unfold Dig; decide) (by unfold Dig; decide) (by omega) (by omega) (fun h => absurd (size_nval (g := lim [3]) (n := 1) (by unfold Dig; decide)) (by omega))
  rw [show nval (lim [0, 0, 1]) 3 = 18446744073709551616 by decide, show nval (lim [3]) 1 = 3 by decide, divRes, if_neg (by decide)] at s2
  have s3 := Add_ok (lim [4294967295]) (lim [1]) 1 1 (by unfold Dig; decide) (by unfold Dig; decide) (by omega) (by omega)
  rw [show nval (lim [4294967295]) 1 = 4294967295 by decide, show nval (lim [1]) 1 = 1 by decide] at s3
  have s4 := GCD_gen (lim [12]) (lim [18, 0]) 1 2 2 (by unfold Dig; decide) (by unfold Dig; decide) (by omega) (by omega) (by omega) (fun a b h1 h2 h3 => by omega)
  rw [show nval (lim [12]) 1 = 12 by decide, show nval (lim [18, 0]) 2 = 18 by decide, show Nat.gcd 12 18 = 6 by decide] at s4
  have e1 := refEqual_lit (4294967295 + 1) 2 [0, 1] (size_eq (n := 1) (by decide) (by decide)) (by unfold Dig; decide) (by decide) (by omega)
  have e2 := refEqual_lit (4294967296 - 1) 1 [4294967295] (size_eq (n := 0) (by decide) (by decide)) (by unfold Dig; decide) (by decide) (by omega)
  have e3 := refEqual_lit (18446744073709551616 / 3) 2 [1431655765, 1431655765] (size_eq (n := 1) (by decide) (by decide)) (by unfold Dig; decide) (by decide) (by omega)
  have e4 := refEqual_lit (18446744073709551616 % 3) 1 [1] (size_eq (n := 0) (by decide) (by decide)) (by unfold Dig; decide) (by decide) (by omega)
  have e5 := refEqual_lit 6 1 [6] (size_eq (n := 0) (by decide) (by decide)) (by unfold Dig; decide) (by decide) (by omega)
  refine acall_rule env [0, 1, 2, 3, 4, 5] Try.func17 rfl rfl rfl rfl ?_
  conv => whnf
  refine callF s1 ⟨(.raw_of fun j hj => match j, hj with | 0, _ => rfl | 1, _ => rfl), (.raw_of fun j hj => match j, hj with | 0, _ => rfl | 1, _ => rfl | 2, _ => rfl), trivial⟩ (by simp) rfl ?_
  conv => whnf
  refine callF s2 ⟨(.raw_of fun j hj => match j, hj with | 0, _ => rfl | 1, _ => rfl | 2, _ => rfl), (.raw_of fun j hj => match j, hj with | 0, _ => rfl), trivial⟩ (by simp) rfl ?_
  conv => whnf
  refine callF s3 ⟨(.raw_of fun j hj => match j, hj with | 0, _ => rfl), (.raw_of fun j hj => match j, hj with | 0, _ => rfl), trivial⟩ (by simp) rfl ?_
  conv => whnf
  refine callF e1 ⟨.refl _, (.raw_of fun j hj => match j, hj with | 0, _ => rfl | 1, _ => rfl), trivial⟩ (by simp) rfl ?_
  conv => whnf
  refine callF e2 ⟨.refl _, (.raw_of fun j hj => match j, hj with | 0, _ => rfl), trivial⟩ (by simp) rfl ?_
  conv => whnf
  refine callF e3 ⟨.refl _, (.raw_of fun j hj => match j, hj with | 0, _ => rfl | 1, _ => rfl), trivial⟩ (by simp) rfl ?_
  conv => whnf
  refine callF e4 ⟨.refl _, (.raw_of fun j hj => match j, hj with | 0, _ => rfl), trivial⟩ (by simp) rfl ?_
  conv => whnf
  refine callF s4 ⟨(.raw_of fun j hj => match j, hj with | 0, _ => rfl), (.raw_of fun j hj => match j, hj with | 0, _ => rfl | 1, _ => rfl), trivial⟩ (by simp) rfl ?_
  conv => whnf
  refine callF e5 ⟨.refl _, (.raw_of fun j hj => match j, hj with | 0, _ => rfl), trivial⟩ (by simp) rfl ?_
  conv => whnf
  refine ⟨(by (try simp only [true_and, and_true, Nat.sub_zero, Nat.zero_add, Int.toNat_natCast]) <;> omega), ?_⟩
  exact .refl _
end Go.Abs

/- The laws of natural numbers, as contracts: Values, Sums, Ring. -/
set_option autoImplicit false
set_option maxHeartbeats 4000000
set_option linter.unusedVariables false
set_option linter.unusedSimpArgs false
namespace Go.Abs
open Go Go.Proofs

theorem nat_call {f : FuncId} {A : Nat} {r : AV} (h : ∀ (g : Nat → Nat) (n : Nat), Dig g n → size (nval g n) = n → n = size A → nval g n = A → ACall Try.prog f [raw g n] r) : ACall Try.prog f [nat A] r :=
  h (digit A) (size A) (digit_Dig _ _) (by rw [nval_digit_size]) rfl (nval_digit_size A)

theorem NaturalValues_ok (g h : Nat → Nat) (n m v : Nat) (hg : Dig g n) (hh : Dig h m) (hn : n ≤ 1099511627776) (hm : m ≤ 1099511627776) (hv : v < 18446744073709551616) :
    ACall Try.prog 3 [raw g n, raw h m, .f (.int .u64 v)] (.f (.bool true)) := by
  have hA := size_nval hg
  have u1 := Uint64_ok g n hg (by omega)
  have u2 := refUint64_ok g n hg (by omega)
  have f1 := FromUint64_ok v hv
  have hsv : size v ≤ 2 := size_le (n := 2) hv
  have u3 := Uint64_ok (digit v) (size v) (digit_Dig _ _) (by omega)
  rw [nval_digit_size, if_pos hv] at u3
  have t1 := Trim_ok g n hg (by omega)
  have t2 := refTrim_ok g n hg (by omega)
  have e1 := refEqual_same (nval g n) (by omega)
  have f2 := refFromUint64_ok v hv
  have e2 := refEqual_same v (by omega)
  have c1 := Compare_ok g h n m hg hh (by omega) (by omega)
  have c2 := refCompare_ok g h n m hg hh (by omega) (by omega)
  by_cases hx : nval g n < 18446744073709551616
  · rw [if_pos hx] at u1 u2
    refine acall_rule env [0, 1, 2, 6, 7, 8, 9, 10, 11, 12] Try.func3 rfl rfl rfl rfl ?_
    conv => whnf
    refine callF u1 ⟨.refl _, trivial⟩ (by trivial) rfl ?_
    conv => whnf
    refine callF u2 ⟨.refl _, trivial⟩ (by trivial) rfl ?_
    conv => whnf
    refine callF f1 ⟨.refl _, trivial⟩ (by trivial) rfl ?_
    conv => whnf
    refine callF u3 ⟨.refl _, trivial⟩ (by trivial) rfl ?_
    conv => whnf
    refine callF awake_ok trivial (by trivial) rfl ?_
    conv => whnf
    refine callF t1 ⟨.refl _, trivial⟩ (by trivial) rfl ?_
    conv => whnf
    refine callF t2 ⟨.refl _, trivial⟩ (by trivial) rfl ?_
    conv => whnf
    refine callF e1 ⟨.refl _, .refl _, trivial⟩ (by trivial) rfl ?_
    conv => whnf
    refine callF f1 ⟨.refl _, trivial⟩ (by trivial) rfl ?_
    conv => whnf
    refine callF f2 ⟨.refl _, trivial⟩ (by trivial) rfl ?_
    conv => whnf
    refine callF e2 ⟨.refl _, .refl _, trivial⟩ (by trivial) rfl ?_
    conv => whnf
    refine splT (by simp) ?_
    conv => whnf
    refine splT (by simp) ?_
    conv => whnf
    refine callF c1 ⟨.refl _, .refl _, trivial⟩ (by trivial) rfl ?_
    conv => whnf
    refine callF c2 ⟨.refl _, .refl _, trivial⟩ (by trivial) rfl ?_
    conv => whnf
    refine ⟨(by (try simp only [true_and, and_true, Nat.sub_zero, Nat.zero_add, Int.toNat_natCast]) <;> omega), ?_⟩
    exact .bool_of (by simp)
  · rw [if_neg hx] at u1 u2
    refine acall_rule env [0, 1, 2, 6, 7, 8, 9, 10, 11, 12] Try.func3 rfl rfl rfl rfl ?_
    conv => whnf
    refine callF u1 ⟨.refl _, trivial⟩ (by trivial) rfl ?_
    conv => whnf
    refine callF u2 ⟨.refl _, trivial⟩ (by trivial) rfl ?_
    conv => whnf
    refine callF f1 ⟨.refl _, trivial⟩ (by trivial) rfl ?_
    conv => whnf
    refine callF u3 ⟨.refl _, trivial⟩ (by trivial) rfl ?_
    conv => whnf
    refine callF awake_ok trivial (by trivial) rfl ?_
    conv => whnf
    refine callF t1 ⟨.refl _, trivial⟩ (by trivial) rfl ?_
    conv => whnf
    refine callF t2 ⟨.refl _, trivial⟩ (by trivial) rfl ?_
    conv => whnf
    refine callF e1 ⟨.refl _, .refl _, trivial⟩ (by trivial) rfl ?_
    conv => whnf
    refine callF f1 ⟨.refl _, trivial⟩ (by trivial) rfl ?_
    conv => whnf
    refine callF f2 ⟨.refl _, trivial⟩ (by trivial) rfl ?_
    conv => whnf
    refine callF e2 ⟨.refl _, .refl _, trivial⟩ (by trivial) rfl ?_
    conv => whnf
    skip
    refine splT (by simp) ?_
    conv => whnf
    refine callF c1 ⟨.refl _, .refl _, trivial⟩ (by trivial) rfl ?_
    conv => whnf
    refine callF c2 ⟨.refl _, .refl _, trivial⟩ (by trivial) rfl ?_
    conv => whnf
    refine ⟨(by (try simp only [true_and, and_true, Nat.sub_zero, Nat.zero_add, Int.toNat_natCast]) <;> omega), ?_⟩
    exact .bool_of (by simp)

theorem NaturalSums_ok (g h : Nat → Nat) (n m : Nat) (hg : Dig g n) (hh : Dig h m) (hn : n ≤ 1099511627776) (hm : m ≤ 1099511627776) :
    ACall Try.prog 4 [raw g n, raw h m] (.f (.bool true)) := by
  have hA := size_nval hg
  have hB := size_nval hh
  have s1 := Sub_ok g h n m hg hh (by omega) (by omega)
  have s2 := refSub_ok g h n m hg hh (by omega) (by omega)
  have a1 := Add_ok g h n m hg hh (by omega) (by omega)
  have a2 := refAdd_ok g h n m hg hh (by omega) (by omega)
  have hs : size (nval g n + nval h m) ≤ max n m + 1 := by
    apply size_le
    have h1 := Nat.lt_of_lt_of_le (nval_lt hg) (pw_le (show n ≤ max n m by omega))
    have h2 := Nat.lt_of_lt_of_le (nval_lt hh) (pw_le (show m ≤ max n m by omega))
    rw [pw_succ]; omega
  have e1 := refEqual_same (nval g n + nval h m) (by omega)
  have e2 := refEqual_same (nval g n - nval h m) (Nat.le_trans (size_mono (Nat.sub_le _ _)) (by omega))
  have e3 := refEqual_same 0 (by decide)
  have c1 := refCompare_ok g h n m hg hh (by omega) (by omega)
  have hc := cmp_lt (A := nval g n) (B := nval h m)
  by_cases hx : nval g n < nval h m
  · rw [if_pos hx] at s1 s2
    refine acall_rule env [0, 1, 4, 5, 6, 7, 8] Try.func4 rfl rfl rfl rfl ?_
    conv => whnf
    refine callF s1 ⟨.refl _, .refl _, trivial⟩ (by trivial) rfl ?_
    conv => whnf
    refine callF s2 ⟨.refl _, .refl _, trivial⟩ (by trivial) rfl ?_
    conv => whnf
    refine callF awake_ok trivial (by trivial) rfl ?_
    conv => whnf
    refine callF a1 ⟨.refl _, .refl _, trivial⟩ (by trivial) rfl ?_
    conv => whnf
    refine callF a2 ⟨.refl _, .refl _, trivial⟩ (by trivial) rfl ?_
    conv => whnf
    refine callF e1 ⟨.refl _, .refl _, trivial⟩ (by trivial) rfl ?_
    conv => whnf
    refine callF e3 ⟨.refl _, .refl _, trivial⟩ (by trivial) rfl ?_
    conv => whnf
    refine callF c1 ⟨.refl _, .refl _, trivial⟩ (by trivial) rfl ?_
    conv => whnf
    refine ⟨(by (try simp only [true_and, and_true, Nat.sub_zero, Nat.zero_add, Int.toNat_natCast]) <;> omega), ?_⟩
    exact .bool_of (by rw [decide_eq_false (by have := hc.2 hx; omega)]; rfl)
  · rw [if_neg hx] at s1 s2
    refine acall_rule env [0, 1, 4, 5, 6, 7, 8] Try.func4 rfl rfl rfl rfl ?_
    conv => whnf
    refine callF s1 ⟨.refl _, .refl _, trivial⟩ (by trivial) rfl ?_
    conv => whnf
    refine callF s2 ⟨.refl _, .refl _, trivial⟩ (by trivial) rfl ?_
    conv => whnf
    refine callF awake_ok trivial (by trivial) rfl ?_
    conv => whnf
    refine callF a1 ⟨.refl _, .refl _, trivial⟩ (by trivial) rfl ?_
    conv => whnf
    refine callF a2 ⟨.refl _, .refl _, trivial⟩ (by trivial) rfl ?_
    conv => whnf
    refine callF e1 ⟨.refl _, .refl _, trivial⟩ (by trivial) rfl ?_
    conv => whnf
    refine callF e2 ⟨.refl _, .refl _, trivial⟩ (by trivial) rfl ?_
    conv => whnf
    refine callF c1 ⟨.refl _, .refl _, trivial⟩ (by trivial) rfl ?_
    conv => whnf
    refine ⟨(by (try simp only [true_and, and_true, Nat.sub_zero, Nat.zero_add, Int.toNat_natCast]) <;> omega), ?_⟩
    exact .bool_of (by rw [decide_eq_true (by have := mt hc.1 hx; omega)]; rfl)
end Go.Abs

/- The laws of natural numbers, as contracts: Ring. -/
set_option autoImplicit false
set_option maxHeartbeats 4000000
set_option linter.unusedVariables false
set_option linter.unusedSimpArgs false
namespace Go.Abs
open Go Go.Proofs

theorem size_add {A B N : Nat} (hA : size A ≤ N) (hB : size B ≤ N) : size (A + B) ≤ N + 1 := by
  apply size_le
  have h1 := Nat.lt_of_lt_of_le (lt_pw_size A) (pw_le hA)
  have h2 := Nat.lt_of_lt_of_le (lt_pw_size B) (pw_le hB)
  rw [pw_succ]; omega
theorem size_mul {A B n m : Nat} (hA : size A ≤ n) (hB : size B ≤ m) : size (A * B) ≤ n + m := by
  apply size_le
  have h1 := Nat.lt_of_lt_of_le (lt_pw_size A) (pw_le hA)
  have h2 := Nat.lt_of_lt_of_le (lt_pw_size B) (pw_le hB)
  rw [pw_add]
  exact Nat.lt_of_le_of_lt (Nat.mul_le_mul_left _ (Nat.le_of_lt h2)) (Nat.mul_lt_mul_of_pos_right h1 (pw_pos m))

theorem Add_nr (A : Nat) (h : Nat → Nat) (m : Nat) (hA : size A < 4398046511104) (hh : Dig h m) (hm : m < 4398046511104) : ACall Try.prog 26 [nat A, raw h m] (nat (A + nval h m)) := by
  have := Add_ok (digit A) h (size A) m (digit_Dig _ _) hh hA hm
  rw [nval_digit_size] at this; exact this
theorem Add_rn (B : Nat) (g : Nat → Nat) (n : Nat) (hg : Dig g n) (hn : n < 4398046511104) (hB : size B < 4398046511104) : ACall Try.prog 26 [raw g n, nat B] (nat (nval g n + B)) := by
  have := Add_ok g (digit B) n (size B) hg (digit_Dig _ _) hn hB
  rw [nval_digit_size] at this; exact this
theorem Add_nn (A B : Nat) (hA : size A < 4398046511104) (hB : size B < 4398046511104) : ACall Try.prog 26 [nat A, nat B] (nat (A + B)) := by
  have := Add_nr A (digit B) (size B) hA (digit_Dig _ _) hB
  rw [nval_digit_size] at this; exact this
theorem Mul_nr (A : Nat) (h : Nat → Nat) (m : Nat) (hh : Dig h m) (hm : size A + m ≤ 4398046511104) : ACall Try.prog 30 [nat A, raw h m] (nat (A * nval h m)) := by
  have := Mul_ok (digit A) h (size A) m (digit_Dig _ _) hh hm
  rw [nval_digit_size] at this; exact this
theorem Mul_rn (B : Nat) (g : Nat → Nat) (n : Nat) (hg : Dig g n) (hn : n + size B ≤ 4398046511104) : ACall Try.prog 30 [raw g n, nat B] (nat (nval g n * B)) := by
  have := Mul_ok g (digit B) n (size B) hg (digit_Dig _ _) hn
  rw [nval_digit_size] at this; exact this

theorem NaturalRing_ok (g h f : Nat → Nat) (n m k : Nat) (hg : Dig g n) (hh : Dig h m) (hf : Dig f k) (hn : n ≤ 1099511627776) (hm : m ≤ 1099511627776) (hk : k ≤ 1099511627776) :
    ACall Try.prog 6 [raw g n, raw h m, raw f k] (.f (.bool true)) := by
  have hA := size_nval hg
  have hB := size_nval hh
  have hC := size_nval hf
  have a1 := Add_ok g h n m hg hh (by omega) (by omega)
  have a2 := Add_ok h g m n hh hg (by omega) (by omega)
  have sab := size_add (N := 1099511627776) (Nat.le_trans hA hn) (Nat.le_trans hB hm)
  have sbc := size_add (N := 1099511627776) (Nat.le_trans hB hm) (Nat.le_trans hC hk)
  have sabc := size_add (N := 1099511627777) sab (Nat.le_trans hC (by omega))
  have mab := size_mul (Nat.le_trans hA hn) (Nat.le_trans hB hm)
  have mbc := size_mul (Nat.le_trans hB hm) (Nat.le_trans hC hk)
  have mac := size_mul (Nat.le_trans hA hn) (Nat.le_trans hC hk)
  have mabc := size_mul mab (Nat.le_trans hC hk)
  have mabc2 := size_mul (Nat.le_trans hA hn) sbc
  have e1 := refEqual_same (nval g n + nval h m) (by omega)
  have m1 := Mul_ok g h n m hg hh (by omega)
  have m2 := Mul_ok h g m n hh hg (by omega)
  have e2 := refEqual_same (nval g n * nval h m) (by omega)
  have a3 := Add_nr (nval g n + nval h m) f k (by omega) hf (by omega)
  have a4 := Add_ok h f m k hh hf (by omega) (by omega)
  have a5 := Add_rn (nval h m + nval f k) g n hg (by omega) (by omega)
  have e3 := refEqual_same (nval g n + nval h m + nval f k) (by omega)
  have m3 := Mul_nr (nval g n * nval h m) f k hf (by omega)
  have m4 := Mul_ok h f m k hh hf (by omega)
  have m5 := Mul_rn (nval h m * nval f k) g n hg (by omega)
  have e4 := refEqual_same (nval g n * nval h m * nval f k) (by omega)
  have m6 := Mul_rn (nval h m + nval f k) g n hg (by omega)
  have m7 := Mul_ok g f n k hg hf (by omega)
  have a6 := Add_nn (nval g n * nval h m) (nval g n * nval f k) (by omega) (by omega)
  have e5 := refEqual_same (nval g n * (nval h m + nval f k)) (by omega)
  rw [Nat.add_comm (nval h m) (nval g n)] at a2
  rw [Nat.mul_comm (nval h m) (nval g n)] at m2
  rw [← Nat.add_assoc] at a5
  rw [← Nat.mul_assoc] at m5
  rw [← Nat.mul_add] at a6
  refine acall_rule env [0, 1, 2, 6] Try.func6 rfl rfl rfl rfl ?_
  conv => whnf
  refine callF awake_ok trivial (by trivial) rfl ?_
  conv => whnf
  refine callF a1 ⟨.refl _, .refl _, trivial⟩ (by trivial) rfl ?_
  conv => whnf
  refine callF a2 ⟨.refl _, .refl _, trivial⟩ (by trivial) rfl ?_
  conv => whnf
  refine callF e1 ⟨.refl _, .refl _, trivial⟩ (by trivial) rfl ?_
  conv => whnf
  refine callF m1 ⟨.refl _, .refl _, trivial⟩ (by trivial) rfl ?_
  conv => whnf
  refine callF m2 ⟨.refl _, .refl _, trivial⟩ (by trivial) rfl ?_
  conv => whnf
  refine callF e2 ⟨.refl _, .refl _, trivial⟩ (by trivial) rfl ?_
  conv => whnf
  refine callF a1 ⟨.refl _, .refl _, trivial⟩ (by trivial) rfl ?_
  conv => whnf
  refine callF a3 ⟨.refl _, .refl _, trivial⟩ (by trivial) rfl ?_
  conv => whnf
  refine callF a4 ⟨.refl _, .refl _, trivial⟩ (by trivial) rfl ?_
  conv => whnf
  refine callF a5 ⟨.refl _, .refl _, trivial⟩ (by trivial) rfl ?_
  conv => whnf
  refine callF e3 ⟨.refl _, .refl _, trivial⟩ (by trivial) rfl ?_
  conv => whnf
  refine callF m1 ⟨.refl _, .refl _, trivial⟩ (by trivial) rfl ?_
  conv => whnf
  refine callF m3 ⟨.refl _, .refl _, trivial⟩ (by trivial) rfl ?_
  conv => whnf
  refine callF m4 ⟨.refl _, .refl _, trivial⟩ (by trivial) rfl ?_
  conv => whnf
  refine callF m5 ⟨.refl _, .refl _, trivial⟩ (by trivial) rfl ?_
  conv => whnf
  refine callF e4 ⟨.refl _, .refl _, trivial⟩ (by trivial) rfl ?_
  conv => whnf
  refine callF a4 ⟨.refl _, .refl _, trivial⟩ (by trivial) rfl ?_
  conv => whnf
  refine callF m6 ⟨.refl _, .refl _, trivial⟩ (by trivial) rfl ?_
  conv => whnf
  refine callF m1 ⟨.refl _, .refl _, trivial⟩ (by trivial) rfl ?_
  conv => whnf
  refine callF m7 ⟨.refl _, .refl _, trivial⟩ (by trivial) rfl ?_
  conv => whnf
  refine callF a6 ⟨.refl _, .refl _, trivial⟩ (by trivial) rfl ?_
  conv => whnf
  refine callF e5 ⟨.refl _, .refl _, trivial⟩ (by trivial) rfl ?_
  conv => whnf
  refine ⟨(by (try simp only [true_and, and_true, Nat.sub_zero, Nat.zero_add, Int.toNat_natCast]) <;> omega), ?_⟩
  exact .refl _
end Go.Abs

/- The reference's natural numbers: DivMod, GCD. -/
set_option autoImplicit false
set_option maxHeartbeats 4000000
set_option linter.unusedVariables false
set_option linter.unusedSimpArgs false
namespace Go.Abs
open Go Go.Proofs

theorem refAdd_nn (A B : Nat) (hA : size A < 4398046511104) (hB : size B < 4398046511104) : ACall Try.prog 27 [nat A, nat B] (nat (A + B)) := by
  have := refAdd_ok (digit A) (digit B) (size A) (size B) (digit_Dig _ _) (digit_Dig _ _) hA hB
  rw [nval_digit_size, nval_digit_size] at this; exact this
theorem refSub_nn (A B : Nat) (hA : size A ≤ 4398046511104) (hB : size B ≤ 4398046511104) : ACall Try.prog 25 [nat A, nat B] (if A < B then .tup [nat 0, .f (.bool false)] else .tup [nat (A - B), .f (.bool true)]) := by
  have := refSub_ok (digit A) (digit B) (size A) (size B) (digit_Dig _ _) (digit_Dig _ _) hA hB
  rw [nval_digit_size, nval_digit_size] at this; exact this
theorem refUint64_nn (A : Nat) (hA : size A ≤ 4398046511104) : ACall Try.prog 15 [nat A] (if A < 18446744073709551616 then .tup [.f (.int .u64 A), .f (.bool true)] else .tup [.f (.int .u64 0), .f (.bool false)]) := by
  have := refUint64_ok (digit A) (size A) (digit_Dig _ _) hA
  rw [nval_digit_size] at this; exact this
theorem refTrim_nn (A : Nat) (hA : size A ≤ 4398046511104) : ACall Try.prog 20 [nat A] (nat A) := by
  have := refTrim_ok (digit A) (size A) (digit_Dig _ _) hA
  rw [nval_digit_size] at this; exact this
theorem size_two {A : Nat} (h : A < 18446744073709551616) : size A ≤ 2 := size_le h

theorem ALe.of_eq {x y : AV} (h : x = y) : ALe x y := h ▸ .refl _
theorem lt_two_bitlen (A : Nat) : A < 2 ^ bitlen A := by
  unfold bitlen; split
  · rename_i h; subst h; decide
  · exact Nat.lt_log2_self


theorem refDivMod_ok (g h : Nat → Nat) (n m : Nat) (hg : Dig g n) (hh : Dig h m) (hn : n ≤ 4398046511000) (hm : m ≤ 4398046511000) :
    ACall Try.prog 29 [raw g n, raw h m] (divRes (nval g n) (nval h m)) := by
  have hA := size_nval hg
  have hB := size_nval hh
  have vb := refTrim_ok h m hh (by omega)
  have ua := refUint64_ok g n hg (by omega)
  have ba := refBits_ok g n hg (by omega)
  have bit := fun i hi => refbit_ok g n i hg hi
  have hAp := nval_lt hg
  have hbl := bitlen_le (N := nval g n) (k := 32 * n) (by rw [← pw_two]; exact hAp)
  generalize nval g n = A at *
  generalize nval h m = B at *
  have ub := refUint64_nn B (by omega)
  unfold divRes
  refine acall_rule env [0, 1, 4, 5, 6, 7, 8, 9, 10, 11, 12, 13, 18, 32, 48, 57, 67] Try.func29 rfl rfl rfl rfl ?_
  conv => whnf
  refine callF vb ⟨.refl _, trivial⟩ (by trivial) rfl ?_
  conv => whnf
  refine spl (fun h1 => ?_) (fun h1 => ?_) <;> simp only [decide_eq_true_eq, decide_eq_false_iff_not, Bool.not_eq_true', Bool.not_eq_false', gt_iff_lt, ge_iff_le] at h1
  · rw [if_pos (size_eq_zero.1 (by omega))]
    conv => whnf
    refine ⟨(by (try simp only [true_and, and_true, Nat.sub_zero, Nat.zero_add, Int.toNat_natCast]) <;> omega), ?_⟩
    exact .tup ⟨.nil_nat, .nil_nat, .refl _, trivial⟩
  have hB0 : 0 < B := by
    rcases Nat.eq_zero_or_pos B with h | h
    · exact absurd (size_eq_zero.2 h) (by omega)
    · exact h
  rw [if_neg (by omega)]
  by_cases a64 : A < 18446744073709551616
  · rw [if_pos a64] at ua
    by_cases b64 : B < 18446744073709551616
    · rw [if_pos b64] at ub
      have hq : A / B ≤ A := Nat.div_le_self _ _
      have hr : A % B < B := Nat.mod_lt _ hB0
      have fq := refFromUint64_ok (A / B) (by omega)
      have fr := refFromUint64_ok (A % B) (by omega)
      conv => whnf
      refine callF ua ⟨.refl _, trivial⟩ (by trivial) rfl ?_
      conv => whnf
      refine callF ub ⟨.refl _, trivial⟩ (by trivial) rfl ?_
      conv => whnf
      refine ⟨(by (try simp only [true_and, and_true, Nat.sub_zero, Nat.zero_add, Int.toNat_natCast]) <;> omega), ?_⟩
      conv => whnf
      refine quou64 (by omega) ?_
      conv => whnf
      refine callF fq ⟨.refl _, trivial⟩ (by trivial) rfl ?_
      conv => whnf
      refine ⟨(by (try simp only [true_and, and_true, Nat.sub_zero, Nat.zero_add, Int.toNat_natCast]) <;> omega), ?_⟩
      conv => whnf
      refine remN ?_
      conv => whnf
      refine callF fr ⟨.refl _, trivial⟩ (by trivial) rfl ?_
      conv => whnf
      refine ⟨by kernel_rfl, ?_⟩
      conv => whnf
      refine ⟨(by (try simp only [true_and, and_true, Nat.sub_zero, Nat.zero_add, Int.toNat_natCast]) <;> omega), ?_⟩
      exact .refl _
    · rw [if_neg b64] at ub
      conv => whnf
      refine callF ua ⟨.refl _, trivial⟩ (by trivial) rfl ?_
      conv => whnf
      refine callF ub ⟨.refl _, trivial⟩ (by trivial) rfl ?_
      conv => whnf
      refine ⟨(by (try simp only [true_and, and_true, Nat.sub_zero, Nat.zero_add, Int.toNat_natCast]) <;> omega), ?_⟩
      conv => whnf
      refine callB ba ⟨.refl _, trivial⟩ (by trivial) rfl ?_
      conv => whnf
      refine fit64 (by omega) ?_
      conv => whnf
      refine loop_ruleF [0, 1, 4, 5, 11] [43] (fun c : Nat => ([(0, raw g n), (1, nat B), (4, .lsl 43 1 1 0 n (some n)), (5, nat (A / 2 ^ c % B)), (11, .f (.int .i64 ((c : Int) - 1)))], [(43, 1, .fa 1 n (fun k => [.int .u32 (digit (A / 2 ^ c / B * 2 ^ c) k : Nat)]))])) (fun c => c ≤ bitlen A) (fun c => c) (bitlen A)
        ⟨_, _, rfl, ⟨rfl, .refl _, rfl, .refl _, rfl, .refl _, rfl, .f ?_, rfl, .refl _, trivial⟩, ⟨⟨rfl, rfl⟩, .fa fun k hk => ?_, trivial⟩⟩ (Nat.le_refl _) ?_
      · rw [Nat.div_eq_of_lt (lt_two_bitlen A), Nat.zero_mod]; exact .nil
      · rw [Nat.div_eq_of_lt (lt_two_bitlen A), Nat.zero_div, Nat.zero_mul]
        refine .one (.int_of ?_)
        simp [digit]
      intro c hc
      conv => whnf
      refine spl (fun h3 => ?_) (fun h3 => ?_) <;> simp only [decide_eq_true_eq, decide_eq_false_iff_not, Bool.not_eq_true', Bool.not_eq_false', gt_iff_lt, ge_iff_le] at h3
      · obtain ⟨e, he⟩ : ∃ e, c = e + 1 := ⟨c - 1, by omega⟩
        subst he
        have hstep := bin_step A B e hB0
        obtain ⟨R, hR⟩ : ∃ R, A / 2 ^ (e + 1) % B = R := ⟨_, rfl⟩
        obtain ⟨Q, hQ⟩ : ∃ Q, A / 2 ^ (e + 1) / B = Q := ⟨_, rfl⟩
        obtain ⟨b, hb⟩ : ∃ b, A / 2 ^ e % 2 = b := ⟨_, rfl⟩
        have hb2 : b < 2 := by rw [← hb]; exact Nat.mod_lt _ (by decide)
        have hRB : R < B := by rw [← hR]; exact Nat.mod_lt _ hB0
        have sR : size R ≤ size B := size_mono (Nat.le_of_lt hRB)
        have sR2 : size (R + R) ≤ size B + 1 := Nat.le_trans (size_mono (show R + R ≤ B + B by omega)) (size_add (Nat.le_refl _) (Nat.le_refl _))
        have ad := refAdd_nn R R (by omega) (by omega)
        have bt := bit e (by omega)
        rw [hb] at bt
        rw [hR, hQ, hb] at hstep
        rw [hR, hQ, show ((e + 1 : Nat) : Int) - 1 = (e : Int) by omega]
        have sb := set_bit Q e
        conv => whnf
        refine callF ad ⟨.refl _, .refl _, trivial⟩ (by trivial) rfl ?_
        conv => whnf
        refine callB bt ⟨.refl _, .int_of (by omega), trivial⟩ (by trivial) rfl ?_
        conv => whnf
        refine spl (fun h4 => ?_) (fun h4 => ?_) <;> simp only [decide_eq_true_eq, decide_eq_false_iff_not, Bool.not_eq_true', Bool.not_eq_false', gt_iff_lt, ge_iff_le] at h4
        · have hb1 : b = 1 := by omega
          subst hb1
          have ad1 := refAdd_ok (digit (R + R)) (lim [1]) (size (R + R)) 1 (digit_Dig _ _) (by unfold Dig; decide) (by omega) (by omega)
          rw [nval_digit_size, show nval (lim [1]) 1 = 1 by decide] at ad1
          have sR3 : size (R + R + 1) ≤ size B + 1 := Nat.le_trans (size_mono (show R + R + 1 ≤ B + B by omega)) (size_add (Nat.le_refl _) (Nat.le_refl _))
          have su := refSub_nn (R + R + 1) B (by omega) (by omega)
          conv => whnf
          refine callF ad1 ⟨.refl _, (.raw_of fun j hj => match j, hj with | 0, _ => rfl), trivial⟩ (by simp) rfl ?_
          conv => whnf
          by_cases hlt : R + R + 1 < B
          · rw [if_pos hlt] at su
            obtain ⟨q1, q2⟩ := hstep.2 (by omega)
            conv => whnf
            refine callF su ⟨.refl _, .refl _, trivial⟩ (by trivial) rfl ?_
            conv => whnf
            refine fit64 (by omega) ?_
            conv => whnf
            refine ⟨e, _, _, rfl, ⟨rfl, .refl _, rfl, .refl _, rfl, .refl _, rfl, ALe.of_eq (congrArg nat (by rw [q1]; omega)), rfl, .refl _, trivial⟩, ⟨⟨rfl, rfl⟩, .fa fun k hk => ?_, trivial⟩, by omega, by omega⟩
            rw [q2]; exact .one (.refl _)
          · rw [if_neg hlt] at su
            obtain ⟨q1, q2⟩ := hstep.1 (by omega)
            have hd := digit_lt (Q * 2 ^ (e + 1)) (e / 32)
            have hp2 : 2 ^ (e % 32) < 4294967296 := Nat.pow_lt_pow_right (show 1 < 2 by decide) (show e % 32 < 32 by omega)
            conv => whnf
            refine callF su ⟨.refl _, .refl _, trivial⟩ (by trivial) rfl ?_
            conv => whnf
            refine ⟨(by (try simp only [true_and, and_true, Nat.sub_zero, Nat.zero_add, Int.toNat_natCast]) <;> omega), ?_⟩
            conv => whnf
            refine quoi64 (b := 32) (by omega) ?_
            conv => whnf
            refine ⟨(by (try simp only [true_and, and_true, Nat.sub_zero, Nat.zero_add, Int.toNat_natCast]) <;> omega), ?_⟩
            conv => whnf
            refine ⟨(by (try simp only [true_and, and_true, Nat.sub_zero, Nat.zero_add, Int.toNat_natCast]) <;> omega), ?_⟩
            conv => whnf
            refine ⟨(by (try simp only [true_and, and_true, Nat.sub_zero, Nat.zero_add, Int.toNat_natCast]) <;> omega), ?_⟩
            conv => whnf
            refine remN (b := 32) ?_
            conv => whnf
            refine sumu64 (e % 32) rfl (by omega) ?_
            conv => whnf
            refine ⟨(by (try simp only [true_and, and_true, Nat.sub_zero, Nat.zero_add, Int.toNat_natCast]) <;> omega), ?_⟩
            conv => whnf
            rw [show 0 + Int.toNat ((e / 32 : Nat) : Int) = e / 32 by omega]
            refine shlN32 (a := 1) (n := e % 32) (2 ^ (e % 32)) rfl (by omega) (by rw [Nat.one_mul, Nat.mod_eq_of_lt hp2]) ?_
            conv => whnf
            refine orN (a := digit (Q * 2 ^ (e + 1)) (e / 32)) (digit (Q * 2 ^ (e + 1)) (e / 32) ||| 2 ^ (e % 32)) rfl (show _ < 4294967296 from hd) (show _ < 4294967296 from hp2) rfl ?_
            conv => whnf
            refine ⟨(by (try simp only [true_and, and_true, Nat.sub_zero, Nat.zero_add, Int.toNat_natCast]) <;> omega), ?_⟩
            conv => whnf
            refine ⟨(by (try simp only [true_and, and_true, Nat.sub_zero, Nat.zero_add, Int.toNat_natCast]) <;> omega), ?_⟩
            conv => whnf
            refine fit64 (by omega) ?_
            conv => whnf
            refine ⟨e, _, _, rfl, ⟨rfl, .refl _, rfl, .refl _, rfl, .refl _, rfl, ALe.of_eq (congrArg nat (by rw [q1]; omega)), rfl, .refl _, trivial⟩, ⟨⟨rfl, rfl⟩, .fa fun k hk => ?_, trivial⟩, by omega, by omega⟩
            rw [q2, upd_set (fun k => digit (Q * 2 ^ (e + 1)) k) _ _ _ rfl, sb k]
            refine .one (.int_of ?_)
            simp only [Nat.zero_add, Int.toNat_natCast]
        · have hb0 : b = 0 := by omega
          subst hb0
          have su := refSub_nn (R + R) B (by omega) (by omega)
          conv => whnf
          by_cases hlt : R + R < B
          · rw [if_pos hlt] at su
            obtain ⟨q1, q2⟩ := hstep.2 (by omega)
            conv => whnf
            refine callF su ⟨.refl _, .refl _, trivial⟩ (by trivial) rfl ?_
            conv => whnf
            refine fit64 (by omega) ?_
            conv => whnf
            refine ⟨e, _, _, rfl, ⟨rfl, .refl _, rfl, .refl _, rfl, .refl _, rfl, ALe.of_eq (congrArg nat (by rw [q1]; omega)), rfl, .refl _, trivial⟩, ⟨⟨rfl, rfl⟩, .fa fun k hk => ?_, trivial⟩, by omega, by omega⟩
            rw [q2]; exact .one (.refl _)
          · rw [if_neg hlt] at su
            obtain ⟨q1, q2⟩ := hstep.1 (by omega)
            have hd := digit_lt (Q * 2 ^ (e + 1)) (e / 32)
            have hp2 : 2 ^ (e % 32) < 4294967296 := Nat.pow_lt_pow_right (show 1 < 2 by decide) (show e % 32 < 32 by omega)
            conv => whnf
            refine callF su ⟨.refl _, .refl _, trivial⟩ (by trivial) rfl ?_
            conv => whnf
            refine ⟨(by (try simp only [true_and, and_true, Nat.sub_zero, Nat.zero_add, Int.toNat_natCast]) <;> omega), ?_⟩
            conv => whnf
            refine quoi64 (b := 32) (by omega) ?_
            conv => whnf
            refine ⟨(by (try simp only [true_and, and_true, Nat.sub_zero, Nat.zero_add, Int.toNat_natCast]) <;> omega), ?_⟩
            conv => whnf
            refine ⟨(by (try simp only [true_and, and_true, Nat.sub_zero, Nat.zero_add, Int.toNat_natCast]) <;> omega), ?_⟩
            conv => whnf
            refine ⟨(by (try simp only [true_and, and_true, Nat.sub_zero, Nat.zero_add, Int.toNat_natCast]) <;> omega), ?_⟩
            conv => whnf
            refine remN (b := 32) ?_
            conv => whnf
            refine sumu64 (e % 32) rfl (by omega) ?_
            conv => whnf
            refine ⟨(by (try simp only [true_and, and_true, Nat.sub_zero, Nat.zero_add, Int.toNat_natCast]) <;> omega), ?_⟩
            conv => whnf
            rw [show 0 + Int.toNat ((e / 32 : Nat) : Int) = e / 32 by omega]
            refine shlN32 (a := 1) (n := e % 32) (2 ^ (e % 32)) rfl (by omega) (by rw [Nat.one_mul, Nat.mod_eq_of_lt hp2]) ?_
            conv => whnf
            refine orN (a := digit (Q * 2 ^ (e + 1)) (e / 32)) (digit (Q * 2 ^ (e + 1)) (e / 32) ||| 2 ^ (e % 32)) rfl (show _ < 4294967296 from hd) (show _ < 4294967296 from hp2) rfl ?_
            conv => whnf
            refine ⟨(by (try simp only [true_and, and_true, Nat.sub_zero, Nat.zero_add, Int.toNat_natCast]) <;> omega), ?_⟩
            conv => whnf
            refine ⟨(by (try simp only [true_and, and_true, Nat.sub_zero, Nat.zero_add, Int.toNat_natCast]) <;> omega), ?_⟩
            conv => whnf
            refine fit64 (by omega) ?_
            conv => whnf
            refine ⟨e, _, _, rfl, ⟨rfl, .refl _, rfl, .refl _, rfl, .refl _, rfl, ALe.of_eq (congrArg nat (by rw [q1]; omega)), rfl, .refl _, trivial⟩, ⟨⟨rfl, rfl⟩, .fa fun k hk => ?_, trivial⟩, by omega, by omega⟩
            rw [q2, upd_set (fun k => digit (Q * 2 ^ (e + 1)) k) _ _ _ rfl, sb k]
            refine .one (.int_of ?_)
            simp only [Nat.zero_add, Int.toNat_natCast]
      · have : c = 0 := by omega
        subst this
        have v1 := refTrim_ok (digit (A / 2 ^ 0 / B * 2 ^ 0)) n (digit_Dig _ _) (by omega)
        have hq : size (A / B) ≤ n := Nat.le_trans (size_mono (Nat.div_le_self _ _)) hA
        have hr : size (A % B) ≤ size A := size_mono (Nat.mod_le _ _)
        rw [nval_digit, Nat.pow_zero, Nat.div_one, Nat.mul_one, mod_size hq] at v1
        have v2 := refTrim_nn (A % B) (by omega)
        rw [Nat.pow_zero, Nat.div_one, Nat.mul_one]
        conv => whnf
        refine callF v1 ⟨.raw_of (fun k hk => by simp only [Nat.zero_add]), trivial⟩ (by (try simp only [true_and, and_true, Nat.sub_zero, Nat.zero_add, Int.toNat_natCast]) <;> omega) rfl ?_
        conv => whnf
        refine callF v2 ⟨.refl _, trivial⟩ (by trivial) rfl ?_
        conv => whnf
        refine ⟨(by (try simp only [true_and, and_true, Nat.sub_zero, Nat.zero_add, Int.toNat_natCast]) <;> omega), ?_⟩
        exact .refl _
  · rw [if_neg a64] at ua
    by_cases b64 : B < 18446744073709551616
    · rw [if_pos b64] at ub
      conv => whnf
      refine callF ua ⟨.refl _, trivial⟩ (by trivial) rfl ?_
      conv => whnf
      refine callF ub ⟨.refl _, trivial⟩ (by trivial) rfl ?_
      conv => whnf
      refine ⟨(by (try simp only [true_and, and_true, Nat.sub_zero, Nat.zero_add, Int.toNat_natCast]) <;> omega), ?_⟩
      conv => whnf
      refine callB ba ⟨.refl _, trivial⟩ (by trivial) rfl ?_
      conv => whnf
      refine fit64 (by omega) ?_
      conv => whnf
      refine loop_ruleF [0, 1, 4, 5, 11] [43] (fun c : Nat => ([(0, raw g n), (1, nat B), (4, .lsl 43 1 1 0 n (some n)), (5, nat (A / 2 ^ c % B)), (11, .f (.int .i64 ((c : Int) - 1)))], [(43, 1, .fa 1 n (fun k => [.int .u32 (digit (A / 2 ^ c / B * 2 ^ c) k : Nat)]))])) (fun c => c ≤ bitlen A) (fun c => c) (bitlen A)
        ⟨_, _, rfl, ⟨rfl, .refl _, rfl, .refl _, rfl, .refl _, rfl, .f ?_, rfl, .refl _, trivial⟩, ⟨⟨rfl, rfl⟩, .fa fun k hk => ?_, trivial⟩⟩ (Nat.le_refl _) ?_
      · rw [Nat.div_eq_of_lt (lt_two_bitlen A), Nat.zero_mod]; exact .nil
      · rw [Nat.div_eq_of_lt (lt_two_bitlen A), Nat.zero_div, Nat.zero_mul]
        refine .one (.int_of ?_)
        simp [digit]
      intro c hc
      conv => whnf
      refine spl (fun h3 => ?_) (fun h3 => ?_) <;> simp only [decide_eq_true_eq, decide_eq_false_iff_not, Bool.not_eq_true', Bool.not_eq_false', gt_iff_lt, ge_iff_le] at h3
      · obtain ⟨e, he⟩ : ∃ e, c = e + 1 := ⟨c - 1, by omega⟩
        subst he
        have hstep := bin_step A B e hB0
        obtain ⟨R, hR⟩ : ∃ R, A / 2 ^ (e + 1) % B = R := ⟨_, rfl⟩
        obtain ⟨Q, hQ⟩ : ∃ Q, A / 2 ^ (e + 1) / B = Q := ⟨_, rfl⟩
        obtain ⟨b, hb⟩ : ∃ b, A / 2 ^ e % 2 = b := ⟨_, rfl⟩
        have hb2 : b < 2 := by rw [← hb]; exact Nat.mod_lt _ (by decide)
        have hRB : R < B := by rw [← hR]; exact Nat.mod_lt _ hB0
        have sR : size R ≤ size B := size_mono (Nat.le_of_lt hRB)
        have sR2 : size (R + R) ≤ size B + 1 := Nat.le_trans (size_mono (show R + R ≤ B + B by omega)) (size_add (Nat.le_refl _) (Nat.le_refl _))
        have ad := refAdd_nn R R (by omega) (by omega)
        have bt := bit e (by omega)
        rw [hb] at bt
        rw [hR, hQ, hb] at hstep
        rw [hR, hQ, show ((e + 1 : Nat) : Int) - 1 = (e : Int) by omega]
        have sb := set_bit Q e
        conv => whnf
        refine callF ad ⟨.refl _, .refl _, trivial⟩ (by trivial) rfl ?_
        conv => whnf
        refine callB bt ⟨.refl _, .int_of (by omega), trivial⟩ (by trivial) rfl ?_
        conv => whnf
        refine spl (fun h4 => ?_) (fun h4 => ?_) <;> simp only [decide_eq_true_eq, decide_eq_false_iff_not, Bool.not_eq_true', Bool.not_eq_false', gt_iff_lt, ge_iff_le] at h4
        · have hb1 : b = 1 := by omega
          subst hb1
          have ad1 := refAdd_ok (digit (R + R)) (lim [1]) (size (R + R)) 1 (digit_Dig _ _) (by unfold Dig; decide) (by omega) (by omega)
          rw [nval_digit_size, show nval (lim [1]) 1 = 1 by decide] at ad1
          have sR3 : size (R + R + 1) ≤ size B + 1 := Nat.le_trans (size_mono (show R + R + 1 ≤ B + B by omega)) (size_add (Nat.le_refl _) (Nat.le_refl _))
          have su := refSub_nn (R + R + 1) B (by omega) (by omega)
          conv => whnf
          refine callF ad1 ⟨.refl _, (.raw_of fun j hj => match j, hj with | 0, _ => rfl), trivial⟩ (by simp) rfl ?_
          conv => whnf
          by_cases hlt : R + R + 1 < B
          · rw [if_pos hlt] at su
            obtain ⟨q1, q2⟩ := hstep.2 (by omega)
            conv => whnf
            refine callF su ⟨.refl _, .refl _, trivial⟩ (by trivial) rfl ?_
            conv => whnf
            refine fit64 (by omega) ?_
            conv => whnf
            refine ⟨e, _, _, rfl, ⟨rfl, .refl _, rfl, .refl _, rfl, .refl _, rfl, ALe.of_eq (congrArg nat (by rw [q1]; omega)), rfl, .refl _, trivial⟩, ⟨⟨rfl, rfl⟩, .fa fun k hk => ?_, trivial⟩, by omega, by omega⟩
            rw [q2]; exact .one (.refl _)
          · rw [if_neg hlt] at su
            obtain ⟨q1, q2⟩ := hstep.1 (by omega)
            have hd := digit_lt (Q * 2 ^ (e + 1)) (e / 32)
            have hp2 : 2 ^ (e % 32) < 4294967296 := Nat.pow_lt_pow_right (show 1 < 2 by decide) (show e % 32 < 32 by omega)
            conv => whnf
            refine callF su ⟨.refl _, .refl _, trivial⟩ (by trivial) rfl ?_
            conv => whnf
            refine ⟨(by (try simp only [true_and, and_true, Nat.sub_zero, Nat.zero_add, Int.toNat_natCast]) <;> omega), ?_⟩
            conv => whnf
            refine quoi64 (b := 32) (by omega) ?_
            conv => whnf
            refine ⟨(by (try simp only [true_and, and_true, Nat.sub_zero, Nat.zero_add, Int.toNat_natCast]) <;> omega), ?_⟩
            conv => whnf
            refine ⟨(by (try simp only [true_and, and_true, Nat.sub_zero, Nat.zero_add, Int.toNat_natCast]) <;> omega), ?_⟩
            conv => whnf
            refine ⟨(by (try simp only [true_and, and_true, Nat.sub_zero, Nat.zero_add, Int.toNat_natCast]) <;> omega), ?_⟩
            conv => whnf
            refine remN (b := 32) ?_
            conv => whnf
            refine sumu64 (e % 32) rfl (by omega) ?_
            conv => whnf
            refine ⟨(by (try simp only [true_and, and_true, Nat.sub_zero, Nat.zero_add, Int.toNat_natCast]) <;> omega), ?_⟩
            conv => whnf
            rw [show 0 + Int.toNat ((e / 32 : Nat) : Int) = e / 32 by omega]
            refine shlN32 (a := 1) (n := e % 32) (2 ^ (e % 32)) rfl (by omega) (by rw [Nat.one_mul, Nat.mod_eq_of_lt hp2]) ?_
            conv => whnf
            refine orN (a := digit (Q * 2 ^ (e + 1)) (e / 32)) (digit (Q * 2 ^ (e + 1)) (e / 32) ||| 2 ^ (e % 32)) rfl (show _ < 4294967296 from hd) (show _ < 4294967296 from hp2) rfl ?_
            conv => whnf
            refine ⟨(by (try simp only [true_and, and_true, Nat.sub_zero, Nat.zero_add, Int.toNat_natCast]) <;> omega), ?_⟩
            conv => whnf
            refine ⟨(by (try simp only [true_and, and_true, Nat.sub_zero, Nat.zero_add, Int.toNat_natCast]) <;> omega), ?_⟩
            conv => whnf
            refine fit64 (by omega) ?_
            conv => whnf
            refine ⟨e, _, _, rfl, ⟨rfl, .refl _, rfl, .refl _, rfl, .refl _, rfl, ALe.of_eq (congrArg nat (by rw [q1]; omega)), rfl, .refl _, trivial⟩, ⟨⟨rfl, rfl⟩, .fa fun k hk => ?_, trivial⟩, by omega, by omega⟩
            rw [q2, upd_set (fun k => digit (Q * 2 ^ (e + 1)) k) _ _ _ rfl, sb k]
            refine .one (.int_of ?_)
            simp only [Nat.zero_add, Int.toNat_natCast]
        · have hb0 : b = 0 := by omega
          subst hb0
          have su := refSub_nn (R + R) B (by omega) (by omega)
          conv => whnf
          by_cases hlt : R + R < B
          · rw [if_pos hlt] at su
            obtain ⟨q1, q2⟩ := hstep.2 (by omega)
            conv => whnf
            refine callF su ⟨.refl _, .refl _, trivial⟩ (by trivial) rfl ?_
            conv => whnf
            refine fit64 (by omega) ?_
            conv => whnf
            refine ⟨e, _, _, rfl, ⟨rfl, .refl _, rfl, .refl _, rfl, .refl _, rfl, ALe.of_eq (congrArg nat (by rw [q1]; omega)), rfl, .refl _, trivial⟩, ⟨⟨rfl, rfl⟩, .fa fun k hk => ?_, trivial⟩, by omega, by omega⟩
            rw [q2]; exact .one (.refl _)
          · rw [if_neg hlt] at su
            obtain ⟨q1, q2⟩ := hstep.1 (by omega)
            have hd := digit_lt (Q * 2 ^ (e + 1)) (e / 32)
            have hp2 : 2 ^ (e % 32) < 4294967296 := Nat.pow_lt_pow_right (show 1 < 2 by decide) (show e % 32 < 32 by omega)
            conv => whnf
            refine callF su ⟨.refl _, .refl _, trivial⟩ (by trivial) rfl ?_
            conv => whnf
            refine ⟨(by (try simp only [true_and, and_true, Nat.sub_zero, Nat.zero_add, Int.toNat_natCast]) <;> omega), ?_⟩
            conv => whnf
            refine quoi64 (b := 32) (by omega) ?_
            conv => whnf
            refine ⟨(by (try simp only [true_and, and_true, Nat.sub_zero, Nat.zero_add, Int.toNat_natCast]) <;> omega), ?_⟩
            conv => whnf
            refine ⟨(by (try simp only [true_and, and_true, Nat.sub_zero, Nat.zero_add, Int.toNat_natCast]) <;> omega), ?_⟩
            conv => whnf
            refine ⟨(by (try simp only [true_and, and_true, Nat.sub_zero, Nat.zero_add, Int.toNat_natCast]) <;> omega), ?_⟩
            conv => whnf
            refine remN (b := 32) ?_
            conv => whnf
            refine sumu64 (e % 32) rfl (by omega) ?_
            conv => whnf
            refine ⟨(by (try simp only [true_and, and_true, Nat.sub_zero, Nat.zero_add, Int.toNat_natCast]) <;> omega), ?_⟩
            conv => whnf
            rw [show 0 + Int.toNat ((e / 32 : Nat) : Int) = e / 32 by omega]
            refine shlN32 (a := 1) (n := e % 32) (2 ^ (e % 32)) rfl (by omega) (by rw [Nat.one_mul, Nat.mod_eq_of_lt hp2]) ?_
            conv => whnf
            refine orN (a := digit (Q * 2 ^ (e + 1)) (e / 32)) (digit (Q * 2 ^ (e + 1)) (e / 32) ||| 2 ^ (e % 32)) rfl (show _ < 4294967296 from hd) (show _ < 4294967296 from hp2) rfl ?_
            conv => whnf
            refine ⟨(by (try simp only [true_and, and_true, Nat.sub_zero, Nat.zero_add, Int.toNat_natCast]) <;> omega), ?_⟩
            conv => whnf
            refine ⟨(by (try simp only [true_and, and_true, Nat.sub_zero, Nat.zero_add, Int.toNat_natCast]) <;> omega), ?_⟩
            conv => whnf
            refine fit64 (by omega) ?_
            conv => whnf
            refine ⟨e, _, _, rfl, ⟨rfl, .refl _, rfl, .refl _, rfl, .refl _, rfl, ALe.of_eq (congrArg nat (by rw [q1]; omega)), rfl, .refl _, trivial⟩, ⟨⟨rfl, rfl⟩, .fa fun k hk => ?_, trivial⟩, by omega, by omega⟩
            rw [q2, upd_set (fun k => digit (Q * 2 ^ (e + 1)) k) _ _ _ rfl, sb k]
            refine .one (.int_of ?_)
            simp only [Nat.zero_add, Int.toNat_natCast]
      · have : c = 0 := by omega
        subst this
        have v1 := refTrim_ok (digit (A / 2 ^ 0 / B * 2 ^ 0)) n (digit_Dig _ _) (by omega)
        have hq : size (A / B) ≤ n := Nat.le_trans (size_mono (Nat.div_le_self _ _)) hA
        have hr : size (A % B) ≤ size A := size_mono (Nat.mod_le _ _)
        rw [nval_digit, Nat.pow_zero, Nat.div_one, Nat.mul_one, mod_size hq] at v1
        have v2 := refTrim_nn (A % B) (by omega)
        rw [Nat.pow_zero, Nat.div_one, Nat.mul_one]
        conv => whnf
        refine callF v1 ⟨.raw_of (fun k hk => by simp only [Nat.zero_add]), trivial⟩ (by (try simp only [true_and, and_true, Nat.sub_zero, Nat.zero_add, Int.toNat_natCast]) <;> omega) rfl ?_
        conv => whnf
        refine callF v2 ⟨.refl _, trivial⟩ (by trivial) rfl ?_
        conv => whnf
        refine ⟨(by (try simp only [true_and, and_true, Nat.sub_zero, Nat.zero_add, Int.toNat_natCast]) <;> omega), ?_⟩
        exact .refl _
    · rw [if_neg b64] at ub
      conv => whnf
      refine callF ua ⟨.refl _, trivial⟩ (by trivial) rfl ?_
      conv => whnf
      refine callF ub ⟨.refl _, trivial⟩ (by trivial) rfl ?_
      conv => whnf
      refine ⟨(by (try simp only [true_and, and_true, Nat.sub_zero, Nat.zero_add, Int.toNat_natCast]) <;> omega), ?_⟩
      conv => whnf
      refine callB ba ⟨.refl _, trivial⟩ (by trivial) rfl ?_
      conv => whnf
      refine fit64 (by omega) ?_
      conv => whnf
      refine loop_ruleF [0, 1, 4, 5, 11] [43] (fun c : Nat => ([(0, raw g n), (1, nat B), (4, .lsl 43 1 1 0 n (some n)), (5, nat (A / 2 ^ c % B)), (11, .f (.int .i64 ((c : Int) - 1)))], [(43, 1, .fa 1 n (fun k => [.int .u32 (digit (A / 2 ^ c / B * 2 ^ c) k : Nat)]))])) (fun c => c ≤ bitlen A) (fun c => c) (bitlen A)
        ⟨_, _, rfl, ⟨rfl, .refl _, rfl, .refl _, rfl, .refl _, rfl, .f ?_, rfl, .refl _, trivial⟩, ⟨⟨rfl, rfl⟩, .fa fun k hk => ?_, trivial⟩⟩ (Nat.le_refl _) ?_
      · rw [Nat.div_eq_of_lt (lt_two_bitlen A), Nat.zero_mod]; exact .nil
      · rw [Nat.div_eq_of_lt (lt_two_bitlen A), Nat.zero_div, Nat.zero_mul]
        refine .one (.int_of ?_)
        simp [digit]
      intro c hc
      conv => whnf
      refine spl (fun h3 => ?_) (fun h3 => ?_) <;> simp only [decide_eq_true_eq, decide_eq_false_iff_not, Bool.not_eq_true', Bool.not_eq_false', gt_iff_lt, ge_iff_le] at h3
      · obtain ⟨e, he⟩ : ∃ e, c = e + 1 := ⟨c - 1, by omega⟩
        subst he
        have hstep := bin_step A B e hB0
        obtain ⟨R, hR⟩ : ∃ R, A / 2 ^ (e + 1) % B = R := ⟨_, rfl⟩
        obtain ⟨Q, hQ⟩ : ∃ Q, A / 2 ^ (e + 1) / B = Q := ⟨_, rfl⟩
        obtain ⟨b, hb⟩ : ∃ b, A / 2 ^ e % 2 = b := ⟨_, rfl⟩
        have hb2 : b < 2 := by rw [← hb]; exact Nat.mod_lt _ (by decide)
        have hRB : R < B := by rw [← hR]; exact Nat.mod_lt _ hB0
        have sR : size R ≤ size B := size_mono (Nat.le_of_lt hRB)
        have sR2 : size (R + R) ≤ size B + 1 := Nat.le_trans (size_mono (show R + R ≤ B + B by omega)) (size_add (Nat.le_refl _) (Nat.le_refl _))
        have ad := refAdd_nn R R (by omega) (by omega)
        have bt := bit e (by omega)
        rw [hb] at bt
        rw [hR, hQ, hb] at hstep
        rw [hR, hQ, show ((e + 1 : Nat) : Int) - 1 = (e : Int) by omega]
        have sb := set_bit Q e
        conv => whnf
        refine callF ad ⟨.refl _, .refl _, trivial⟩ (by trivial) rfl ?_
        conv => whnf
        refine callB bt ⟨.refl _, .int_of (by omega), trivial⟩ (by trivial) rfl ?_
        conv => whnf
        refine spl (fun h4 => ?_) (fun h4 => ?_) <;> simp only [decide_eq_true_eq, decide_eq_false_iff_not, Bool.not_eq_true', Bool.not_eq_false', gt_iff_lt, ge_iff_le] at h4
        · have hb1 : b = 1 := by omega
          subst hb1
          have ad1 := refAdd_ok (digit (R + R)) (lim [1]) (size (R + R)) 1 (digit_Dig _ _) (by unfold Dig; decide) (by omega) (by omega)
          rw [nval_digit_size, show nval (lim [1]) 1 = 1 by decide] at ad1
          have sR3 : size (R + R + 1) ≤ size B + 1 := Nat.le_trans (size_mono (show R + R + 1 ≤ B + B by omega)) (size_add (Nat.le_refl _) (Nat.le_refl _))
          have su := refSub_nn (R + R + 1) B (by omega) (by omega)
          conv => whnf
          refine callF ad1 ⟨.refl _, (.raw_of fun j hj => match j, hj with | 0, _ => rfl), trivial⟩ (by simp) rfl ?_
          conv => whnf
          by_cases hlt : R + R + 1 < B
          · rw [if_pos hlt] at su
            obtain ⟨q1, q2⟩ := hstep.2 (by omega)
            conv => whnf
            refine callF su ⟨.refl _, .refl _, trivial⟩ (by trivial) rfl ?_
            conv => whnf
            refine fit64 (by omega) ?_
            conv => whnf
            refine ⟨e, _, _, rfl, ⟨rfl, .refl _, rfl, .refl _, rfl, .refl _, rfl, ALe.of_eq (congrArg nat (by rw [q1]; omega)), rfl, .refl _, trivial⟩, ⟨⟨rfl, rfl⟩, .fa fun k hk => ?_, trivial⟩, by omega, by omega⟩
            rw [q2]; exact .one (.refl _)
          · rw [if_neg hlt] at su
            obtain ⟨q1, q2⟩ := hstep.1 (by omega)
            have hd := digit_lt (Q * 2 ^ (e + 1)) (e / 32)
            have hp2 : 2 ^ (e % 32) < 4294967296 := Nat.pow_lt_pow_right (show 1 < 2 by decide) (show e % 32 < 32 by omega)
            conv => whnf
            refine callF su ⟨.refl _, .refl _, trivial⟩ (by trivial) rfl ?_
            conv => whnf
            refine ⟨(by (try simp only [true_and, and_true, Nat.sub_zero, Nat.zero_add, Int.toNat_natCast]) <;> omega), ?_⟩
            conv => whnf
            refine quoi64 (b := 32) (by omega) ?_
            conv => whnf
            refine ⟨(by (try simp only [true_and, and_true, Nat.sub_zero, Nat.zero_add, Int.toNat_natCast]) <;> omega), ?_⟩
            conv => whnf
            refine ⟨(by (try simp only [true_and, and_true, Nat.sub_zero, Nat.zero_add, Int.toNat_natCast]) <;> omega), ?_⟩
            conv => whnf
            refine ⟨(by (try simp only [true_and, and_true, Nat.sub_zero, Nat.zero_add, Int.toNat_natCast]) <;> omega), ?_⟩
            conv => whnf
            refine remN (b := 32) ?_
            conv => whnf
            refine sumu64 (e % 32) rfl (by omega) ?_
            conv => whnf
            refine ⟨(by (try simp only [true_and, and_true, Nat.sub_zero, Nat.zero_add, Int.toNat_natCast]) <;> omega), ?_⟩
            conv => whnf
            rw [show 0 + Int.toNat ((e / 32 : Nat) : Int) = e / 32 by omega]
            refine shlN32 (a := 1) (n := e % 32) (2 ^ (e % 32)) rfl (by omega) (by rw [Nat.one_mul, Nat.mod_eq_of_lt hp2]) ?_
            conv => whnf
            refine orN (a := digit (Q * 2 ^ (e + 1)) (e / 32)) (digit (Q * 2 ^ (e + 1)) (e / 32) ||| 2 ^ (e % 32)) rfl (show _ < 4294967296 from hd) (show _ < 4294967296 from hp2) rfl ?_
            conv => whnf
            refine ⟨(by (try simp only [true_and, and_true, Nat.sub_zero, Nat.zero_add, Int.toNat_natCast]) <;> omega), ?_⟩
            conv => whnf
            refine ⟨(by (try simp only [true_and, and_true, Nat.sub_zero, Nat.zero_add, Int.toNat_natCast]) <;> omega), ?_⟩
            conv => whnf
            refine fit64 (by omega) ?_
            conv => whnf
            refine ⟨e, _, _, rfl, ⟨rfl, .refl _, rfl, .refl _, rfl, .refl _, rfl, ALe.of_eq (congrArg nat (by rw [q1]; omega)), rfl, .refl _, trivial⟩, ⟨⟨rfl, rfl⟩, .fa fun k hk => ?_, trivial⟩, by omega, by omega⟩
            rw [q2, upd_set (fun k => digit (Q * 2 ^ (e + 1)) k) _ _ _ rfl, sb k]
            refine .one (.int_of ?_)
            simp only [Nat.zero_add, Int.toNat_natCast]
        · have hb0 : b = 0 := by omega
          subst hb0
          have su := refSub_nn (R + R) B (by omega) (by omega)
          conv => whnf
          by_cases hlt : R + R < B
          · rw [if_pos hlt] at su
            obtain ⟨q1, q2⟩ := hstep.2 (by omega)
            conv => whnf
            refine callF su ⟨.refl _, .refl _, trivial⟩ (by trivial) rfl ?_
            conv => whnf
            refine fit64 (by omega) ?_
            conv => whnf
            refine ⟨e, _, _, rfl, ⟨rfl, .refl _, rfl, .refl _, rfl, .refl _, rfl, ALe.of_eq (congrArg nat (by rw [q1]; omega)), rfl, .refl _, trivial⟩, ⟨⟨rfl, rfl⟩, .fa fun k hk => ?_, trivial⟩, by omega, by omega⟩
            rw [q2]; exact .one (.refl _)
          · rw [if_neg hlt] at su
            obtain ⟨q1, q2⟩ := hstep.1 (by omega)
            have hd := digit_lt (Q * 2 ^ (e + 1)) (e / 32)
            have hp2 : 2 ^ (e % 32) < 4294967296 := Nat.pow_lt_pow_right (show 1 < 2 by decide) (show e % 32 < 32 by omega)
            conv => whnf
            refine callF su ⟨.refl _, .refl _, trivial⟩ (by trivial) rfl ?_
            conv => whnf
            refine ⟨(by (try simp only [true_and, and_true, Nat.sub_zero, Nat.zero_add, Int.toNat_natCast]) <;> omega), ?_⟩
            conv => whnf
            refine quoi64 (b := 32) (by omega) ?_
            conv => whnf
            refine ⟨(by (try simp only [true_and, and_true, Nat.sub_zero, Nat.zero_add, Int.toNat_natCast]) <;> omega), ?_⟩
            conv => whnf
            refine ⟨(by (try simp only [true_and, and_true, Nat.sub_zero, Nat.zero_add, Int.toNat_natCast]) <;> omega), ?_⟩
            conv => whnf
            refine ⟨(by (try simp only [true_and, and_true, Nat.sub_zero, Nat.zero_add, Int.toNat_natCast]) <;> omega), ?_⟩
            conv => whnf
            refine remN (b := 32) ?_
            conv => whnf
            refine sumu64 (e % 32) rfl (by omega) ?_
            conv => whnf
            refine ⟨(by (try simp only [true_and, and_true, Nat.sub_zero, Nat.zero_add, Int.toNat_natCast]) <;> omega), ?_⟩
            conv => whnf
            rw [show 0 + Int.toNat ((e / 32 : Nat) : Int) = e / 32 by omega]
            refine shlN32 (a := 1) (n := e % 32) (2 ^ (e % 32)) rfl (by omega) (by rw [Nat.one_mul, Nat.mod_eq_of_lt hp2]) ?_
            conv => whnf
            refine orN (a := digit (Q * 2 ^ (e + 1)) (e / 32)) (digit (Q * 2 ^ (e + 1)) (e / 32) ||| 2 ^ (e % 32)) rfl (show _ < 4294967296 from hd) (show _ < 4294967296 from hp2) rfl ?_
            conv => whnf
            refine ⟨(by (try simp only [true_and, and_true, Nat.sub_zero, Nat.zero_add, Int.toNat_natCast]) <;> omega), ?_⟩
            conv => whnf
            refine ⟨(by (try simp only [true_and, and_true, Nat.sub_zero, Nat.zero_add, Int.toNat_natCast]) <;> omega), ?_⟩
            conv => whnf
            refine fit64 (by omega) ?_
            conv => whnf
            refine ⟨e, _, _, rfl, ⟨rfl, .refl _, rfl, .refl _, rfl, .refl _, rfl, ALe.of_eq (congrArg nat (by rw [q1]; omega)), rfl, .refl _, trivial⟩, ⟨⟨rfl, rfl⟩, .fa fun k hk => ?_, trivial⟩, by omega, by omega⟩
            rw [q2, upd_set (fun k => digit (Q * 2 ^ (e + 1)) k) _ _ _ rfl, sb k]
            refine .one (.int_of ?_)
            simp only [Nat.zero_add, Int.toNat_natCast]
      · have : c = 0 := by omega
        subst this
        have v1 := refTrim_ok (digit (A / 2 ^ 0 / B * 2 ^ 0)) n (digit_Dig _ _) (by omega)
        have hq : size (A / B) ≤ n := Nat.le_trans (size_mono (Nat.div_le_self _ _)) hA
        have hr : size (A % B) ≤ size A := size_mono (Nat.mod_le _ _)
        rw [nval_digit, Nat.pow_zero, Nat.div_one, Nat.mul_one, mod_size hq] at v1
        have v2 := refTrim_nn (A % B) (by omega)
        rw [Nat.pow_zero, Nat.div_one, Nat.mul_one]
        conv => whnf
        refine callF v1 ⟨.raw_of (fun k hk => by simp only [Nat.zero_add]), trivial⟩ (by (try simp only [true_and, and_true, Nat.sub_zero, Nat.zero_add, Int.toNat_natCast]) <;> omega) rfl ?_
        conv => whnf
        refine callF v2 ⟨.refl _, trivial⟩ (by trivial) rfl ?_
        conv => whnf
        refine ⟨(by (try simp only [true_and, and_true, Nat.sub_zero, Nat.zero_add, Int.toNat_natCast]) <;> omega), ?_⟩
        exact .refl _

theorem refDivMod_nn (A B : Nat) (hA : size A ≤ 4398046511000) (hB : size B ≤ 4398046511000) : ACall Try.prog 29 [nat A, nat B] (divRes A B) := by
  have := refDivMod_ok (digit A) (digit B) (size A) (size B) (digit_Dig _ _) (digit_Dig _ _) hA hB
  rw [nval_digit_size, nval_digit_size] at this; exact this

theorem refGCD_ok (g h : Nat → Nat) (n m : Nat) (hg : Dig g n) (hh : Dig h m) (hn : n ≤ 4398046511000) (hm : m ≤ 4398046511000) :
    ACall Try.prog 34 [raw g n, raw h m] (nat (Nat.gcd (nval g n) (nval h m))) := by
  have hA := size_nval hg
  have hB := size_nval hh
  have va := refTrim_ok g n hg (by omega)
  have vb := refTrim_ok h m hh (by omega)
  generalize nval g n = A at *
  generalize nval h m = B at *
  refine acall_rule env [0, 1, 4, 6, 14] Try.func34 rfl rfl rfl rfl ?_
  conv => whnf
  refine callF va ⟨.refl _, trivial⟩ (by trivial) rfl ?_
  conv => whnf
  refine callF vb ⟨.refl _, trivial⟩ (by trivial) rfl ?_
  conv => whnf
  refine loop_rule2 [0, 1] [] (fun s : Nat × Nat => ([(0, nat s.1), (1, nat s.2)], [])) (fun s => size s.1 ≤ 4398046511000 ∧ size s.2 ≤ 4398046511000 ∧ Nat.gcd s.1 s.2 = Nat.gcd A B) (fun s => s.2) (A, B) ⟨_, rfl, .refl _⟩ ⟨by simp only; omega, by simp only; omega, rfl⟩ ?_
  rintro ⟨a, b⟩ ⟨h1, h2, h3⟩
  simp only at h1 h2 h3 ⊢
  conv => whnf
  refine spl (fun h4 => ?_) (fun h4 => ?_) <;> simp only [decide_eq_true_eq, decide_eq_false_iff_not, Bool.not_eq_true', Bool.not_eq_false', gt_iff_lt, ge_iff_le] at h4
  · have hb : 0 < b := by
      rcases Nat.eq_zero_or_pos b with h | h
      · subst h; rw [size_zero] at h4; omega
      · exact h
    have dv := refDivMod_nn a b h1 h2
    rw [divRes, if_neg (by omega)] at dv
    have hlt : a % b < b := Nat.mod_lt _ hb
    conv => whnf
    refine callF dv ⟨.refl _, .refl _, trivial⟩ (by trivial) rfl ?_
    conv => whnf
    exact ⟨(b, a % b), _, rfl, .refl _, ⟨h2, by have := size_mono (Nat.le_of_lt hlt); simp only; omega, by rw [← h3]; exact gcd_step _ _⟩, hlt⟩
  · have hb : b = 0 := size_eq_zero.1 (by omega)
    subst hb
    rw [Nat.gcd_zero_right] at h3
    subst h3
    conv => whnf
    refine ⟨(by (try simp only [true_and, and_true, Nat.sub_zero, Nat.zero_add, Int.toNat_natCast]) <;> omega), ?_⟩
    exact .refl _
end Go.Abs

/- The laws of natural numbers, as contracts: Order. -/
set_option autoImplicit false
set_option maxHeartbeats 4000000
set_option linter.unusedVariables false
set_option linter.unusedSimpArgs false
namespace Go.Abs
open Go Go.Proofs

theorem cmp_of_lt {A B : Nat} (h : A < B) : cmp A B = -1 := if_pos h
theorem cmp_of_eq {A B : Nat} (h : A = B) : cmp A B = 0 := by unfold cmp; rw [if_neg (by omega), if_pos h]
theorem cmp_of_gt {A B : Nat} (h : B < A) : cmp A B = 1 := by unfold cmp; rw [if_neg (by omega), if_neg (by omega)]
theorem Compare_nn (A B : Nat) (hA : size A ≤ 4398046511104) (hB : size B ≤ 4398046511104) : ACall Try.prog 22 [nat A, nat B] (.f (.int .i64 (cmp A B))) := by
  have := Compare_ok (digit A) (digit B) (size A) (size B) (digit_Dig _ _) (digit_Dig _ _) hA hB
  rw [nval_digit_size, nval_digit_size] at this; exact this


theorem NaturalOrder_ok (g h f : Nat → Nat) (n m k : Nat) (hg : Dig g n) (hh : Dig h m) (hf : Dig f k) (hn : n ≤ 1099511627776) (hm : m ≤ 1099511627776) (hk : k ≤ 1099511627776) :
    ACall Try.prog 9 [raw g n, raw h m, raw f k] (.f (.bool true)) := by
  have hA := size_nval hg
  have hB := size_nval hh
  have hC := size_nval hf
  have c1 := Compare_ok g h n m hg hh (by omega) (by omega)
  have c2 := Compare_ok h g m n hh hg (by omega) (by omega)
  have s1 := Sub_ok g h n m hg hh (by omega) (by omega)
  have a1 := Add_ok g f n k hg hf (by omega) (by omega)
  have a2 := Add_ok h f m k hh hf (by omega) (by omega)
  have sac := size_add (N := 1099511627776) (Nat.le_trans hA hn) (Nat.le_trans hC hk)
  have sbc := size_add (N := 1099511627776) (Nat.le_trans hB hm) (Nat.le_trans hC hk)
  have mac := size_mul (Nat.le_trans hA hn) (Nat.le_trans hC hk)
  have mbc := size_mul (Nat.le_trans hB hm) (Nat.le_trans hC hk)
  have c3 := Compare_nn (nval g n + nval f k) (nval h m + nval f k) (by omega) (by omega)
  have b1 := Bits_ok f k hf (by omega)
  have m1 := Mul_ok g f n k hg hf (by omega)
  have m2 := Mul_ok h f m k hh hf (by omega)
  have c4 : 0 < nval f k → ACall Try.prog 22 [nat (nval g n * nval f k), nat (nval h m * nval f k)] (.f (.int .i64 (cmp (nval g n) (nval h m)))) := by
    intro hp
    have := Compare_nn (nval g n * nval f k) (nval h m * nval f k) (by omega) (by omega)
    have e : cmp (nval g n * nval f k) (nval h m * nval f k) = cmp (nval g n) (nval h m) := by
      rcases Nat.lt_trichotomy (nval g n) (nval h m) with h | h | h
      · rw [cmp_of_lt h, cmp_of_lt (Nat.mul_lt_mul_of_pos_right h hp)]
      · rw [cmp_of_eq h, cmp_of_eq (by rw [h])]
      · rw [cmp_of_gt h, cmp_of_gt (Nat.mul_lt_mul_of_pos_right h hp)]
    rwa [e] at this
  rcases Nat.lt_trichotomy (nval g n) (nval h m) with hlt | hlt | hlt
  · rw [cmp_of_lt hlt] at c1 c4
    rw [cmp_of_gt hlt] at c2
    rw [if_pos hlt] at s1
    rw [cmp_of_lt (by omega)] at c3
    refine acall_rule env [0, 1, 2, 6, 7, 9, 45] Try.func9 rfl rfl rfl rfl ?_
    conv => whnf
    refine callF c1 ⟨.refl _, .refl _, trivial⟩ (by trivial) rfl ?_
    conv => whnf
    refine callF s1 ⟨.refl _, .refl _, trivial⟩ (by trivial) rfl ?_
    conv => whnf
    refine callF awake_ok trivial (by trivial) rfl ?_
    conv => whnf
    refine callF c2 ⟨.refl _, .refl _, trivial⟩ (by trivial) rfl ?_
    conv => whnf
    refine fit64 (by decide) ?_
    conv => whnf
    refine callF a1 ⟨.refl _, .refl _, trivial⟩ (by trivial) rfl ?_
    conv => whnf
    refine callF a2 ⟨.refl _, .refl _, trivial⟩ (by trivial) rfl ?_
    conv => whnf
    refine callF c3 ⟨.refl _, .refl _, trivial⟩ (by trivial) rfl ?_
    conv => whnf
    refine callF b1 ⟨.refl _, trivial⟩ (by trivial) rfl ?_
    conv => whnf
    refine spl (fun hc0 => ?_) (fun hc0 => ?_) <;> simp only [decide_eq_true_eq, decide_eq_false_iff_not, Bool.not_eq_true', Bool.not_eq_false', gt_iff_lt, ge_iff_le] at hc0
    · conv => whnf
      refine ⟨(by (try simp only [true_and, and_true, Nat.sub_zero, Nat.zero_add, Int.toNat_natCast]) <;> omega), ?_⟩
      exact .refl _
    have hC0 : 0 < nval f k := by
      rcases Nat.eq_zero_or_pos (nval f k) with h | h
      · exact absurd (by rw [h]; rfl) hc0
      · exact h
    have c4 := c4 hC0
    conv => whnf
    refine callF m1 ⟨.refl _, .refl _, trivial⟩ (by trivial) rfl ?_
    conv => whnf
    refine callF m2 ⟨.refl _, .refl _, trivial⟩ (by trivial) rfl ?_
    conv => whnf
    refine callF c4 ⟨.refl _, .refl _, trivial⟩ (by trivial) rfl ?_
    conv => whnf
    refine ⟨(by (try simp only [true_and, and_true, Nat.sub_zero, Nat.zero_add, Int.toNat_natCast]) <;> omega), ?_⟩
    exact .refl _
  · rw [cmp_of_eq hlt] at c1 c4
    rw [cmp_of_eq hlt.symm] at c2
    rw [if_neg (by omega)] at s1
    rw [cmp_of_eq (by omega)] at c3
    refine acall_rule env [0, 1, 2, 6, 7, 9, 45] Try.func9 rfl rfl rfl rfl ?_
    conv => whnf
    refine callF c1 ⟨.refl _, .refl _, trivial⟩ (by trivial) rfl ?_
    conv => whnf
    refine callF s1 ⟨.refl _, .refl _, trivial⟩ (by trivial) rfl ?_
    conv => whnf
    refine callF awake_ok trivial (by trivial) rfl ?_
    conv => whnf
    refine callF c2 ⟨.refl _, .refl _, trivial⟩ (by trivial) rfl ?_
    conv => whnf
    refine fit64 (by decide) ?_
    conv => whnf
    refine callF a1 ⟨.refl _, .refl _, trivial⟩ (by trivial) rfl ?_
    conv => whnf
    refine callF a2 ⟨.refl _, .refl _, trivial⟩ (by trivial) rfl ?_
    conv => whnf
    refine callF c3 ⟨.refl _, .refl _, trivial⟩ (by trivial) rfl ?_
    conv => whnf
    refine callF b1 ⟨.refl _, trivial⟩ (by trivial) rfl ?_
    conv => whnf
    refine spl (fun hc0 => ?_) (fun hc0 => ?_) <;> simp only [decide_eq_true_eq, decide_eq_false_iff_not, Bool.not_eq_true', Bool.not_eq_false', gt_iff_lt, ge_iff_le] at hc0
    · conv => whnf
      refine ⟨(by (try simp only [true_and, and_true, Nat.sub_zero, Nat.zero_add, Int.toNat_natCast]) <;> omega), ?_⟩
      exact .refl _
    have hC0 : 0 < nval f k := by
      rcases Nat.eq_zero_or_pos (nval f k) with h | h
      · exact absurd (by rw [h]; rfl) hc0
      · exact h
    have c4 := c4 hC0
    conv => whnf
    refine callF m1 ⟨.refl _, .refl _, trivial⟩ (by trivial) rfl ?_
    conv => whnf
    refine callF m2 ⟨.refl _, .refl _, trivial⟩ (by trivial) rfl ?_
    conv => whnf
    refine callF c4 ⟨.refl _, .refl _, trivial⟩ (by trivial) rfl ?_
    conv => whnf
    refine ⟨(by (try simp only [true_and, and_true, Nat.sub_zero, Nat.zero_add, Int.toNat_natCast]) <;> omega), ?_⟩
    exact .refl _
  · rw [cmp_of_gt hlt] at c1 c4
    rw [cmp_of_lt hlt] at c2
    rw [if_neg (by omega)] at s1
    rw [cmp_of_gt (by omega)] at c3
    refine acall_rule env [0, 1, 2, 6, 7, 9, 45] Try.func9 rfl rfl rfl rfl ?_
    conv => whnf
    refine callF c1 ⟨.refl _, .refl _, trivial⟩ (by trivial) rfl ?_
    conv => whnf
    refine callF s1 ⟨.refl _, .refl _, trivial⟩ (by trivial) rfl ?_
    conv => whnf
    refine callF awake_ok trivial (by trivial) rfl ?_
    conv => whnf
    refine callF c2 ⟨.refl _, .refl _, trivial⟩ (by trivial) rfl ?_
    conv => whnf
    refine fit64 (by decide) ?_
    conv => whnf
    refine callF a1 ⟨.refl _, .refl _, trivial⟩ (by trivial) rfl ?_
    conv => whnf
    refine callF a2 ⟨.refl _, .refl _, trivial⟩ (by trivial) rfl ?_
    conv => whnf
    refine callF c3 ⟨.refl _, .refl _, trivial⟩ (by trivial) rfl ?_
    conv => whnf
    refine callF b1 ⟨.refl _, trivial⟩ (by trivial) rfl ?_
    conv => whnf
    refine spl (fun hc0 => ?_) (fun hc0 => ?_) <;> simp only [decide_eq_true_eq, decide_eq_false_iff_not, Bool.not_eq_true', Bool.not_eq_false', gt_iff_lt, ge_iff_le] at hc0
    · conv => whnf
      refine ⟨(by (try simp only [true_and, and_true, Nat.sub_zero, Nat.zero_add, Int.toNat_natCast]) <;> omega), ?_⟩
      exact .refl _
    have hC0 : 0 < nval f k := by
      rcases Nat.eq_zero_or_pos (nval f k) with h | h
      · exact absurd (by rw [h]; rfl) hc0
      · exact h
    have c4 := c4 hC0
    conv => whnf
    refine callF m1 ⟨.refl _, .refl _, trivial⟩ (by trivial) rfl ?_
    conv => whnf
    refine callF m2 ⟨.refl _, .refl _, trivial⟩ (by trivial) rfl ?_
    conv => whnf
    refine callF c4 ⟨.refl _, .refl _, trivial⟩ (by trivial) rfl ?_
    conv => whnf
    refine ⟨(by (try simp only [true_and, and_true, Nat.sub_zero, Nat.zero_add, Int.toNat_natCast]) <;> omega), ?_⟩
    exact .refl _
end Go.Abs

/- The laws of natural numbers, as contracts: Products, Divides, GCD. -/
set_option autoImplicit false
set_option maxHeartbeats 4000000
set_option linter.unusedVariables false
set_option linter.unusedSimpArgs false
namespace Go.Abs
open Go Go.Proofs

theorem Compare_nr (A : Nat) (h : Nat → Nat) (m : Nat) (hA : size A ≤ 4398046511104) (hh : Dig h m) (hm : m ≤ 4398046511104) : ACall Try.prog 22 [nat A, raw h m] (.f (.int .i64 (cmp A (nval h m)))) := by
  have := Compare_ok (digit A) h (size A) m (digit_Dig _ _) hh hA hm
  rw [nval_digit_size] at this; exact this
theorem DivMod_rn (B : Nat) (g : Nat → Nat) (n : Nat) (hg : Dig g n) (hn : n ≤ 4398046511000) (hB : size B ≤ 4398046511000) : ACall Try.prog 28 [raw g n, nat B] (divRes (nval g n) B) := by
  have := DivMod_ok g (digit B) n (size B) hg (digit_Dig _ _) hn hB
  rw [nval_digit_size] at this; exact this
theorem GCD_nn (A B : Nat) (hA : size A ≤ 4398046511000) (hB : size B ≤ 4398046511000) : ACall Try.prog 33 [nat A, nat B] (nat (Nat.gcd A B)) := by
  have := GCD_ok (digit A) (digit B) (size A) (size B) (digit_Dig _ _) (digit_Dig _ _) hA hB
  rw [nval_digit_size, nval_digit_size] at this; exact this
theorem size_le_of {A B N : Nat} (h : A ≤ B) (hB : size B ≤ N) : size A ≤ N := Nat.le_trans (size_mono h) hB
theorem size_gcd_left {A B N : Nat} (hA : size A ≤ N) (hB : size B ≤ N) : size (Nat.gcd A B) ≤ N := by
  rcases Nat.eq_zero_or_pos A with h | h
  · subst h; rw [Nat.gcd_zero_left]; exact hB
  · exact size_le_of (Nat.gcd_le_left _ h) hA

theorem NaturalProducts_ok (g h : Nat → Nat) (n m : Nat) (hg : Dig g n) (hh : Dig h m) (hn : n ≤ 1099511627776) (hm : m ≤ 1099511627776) :
    ACall Try.prog 5 [raw g n, raw h m] (.f (.bool true)) := by
  have hA := size_nval hg
  have hB := size_nval hh
  have d1 := DivMod_ok g h n m hg hh (by omega) (by omega)
  have d2 := refDivMod_ok g h n m hg hh (by omega) (by omega)
  have m1 := Mul_ok g h n m hg hh (by omega)
  have m2 := refMul_ok g h n m hg hh (by omega)
  have sm := size_mul (Nat.le_trans hA hn) (Nat.le_trans hB hm)
  have e1 := refEqual_same (nval g n * nval h m) (by omega)
  have e2 := refEqual_same (nval g n / nval h m) (size_le_of (Nat.div_le_self _ _) (by omega))
  have e3 := refEqual_same (nval g n % nval h m) (size_le_of (Nat.mod_le _ _) (by omega))
  have e0 := refEqual_same 0 (by simp [size_zero])
  unfold divRes at d1 d2
  by_cases h0 : nval h m = 0
  · rw [if_pos h0] at d1 d2
    refine acall_rule env [0, 1, 4, 5, 6, 7, 8, 9, 10] Try.func5 rfl rfl rfl rfl ?_
    conv => whnf
    first | refine callF d1 ⟨.refl _, .refl _, trivial⟩ (by trivial) rfl ?_ | ((repeat (refine ⟨by kernel_rfl, ?_⟩; (conv => whnf))); refine callF d1 ⟨.refl _, .refl _, trivial⟩ (by trivial) rfl ?_)
    conv => whnf
    first | refine callF d2 ⟨.refl _, .refl _, trivial⟩ (by trivial) rfl ?_ | ((repeat (refine ⟨by kernel_rfl, ?_⟩; (conv => whnf))); refine callF d2 ⟨.refl _, .refl _, trivial⟩ (by trivial) rfl ?_)
    conv => whnf
    first | refine callF awake_ok trivial (by trivial) rfl ?_ | ((repeat (refine ⟨by kernel_rfl, ?_⟩; (conv => whnf))); refine callF awake_ok trivial (by trivial) rfl ?_)
    conv => whnf
    first | refine callF m1 ⟨.refl _, .refl _, trivial⟩ (by trivial) rfl ?_ | ((repeat (refine ⟨by kernel_rfl, ?_⟩; (conv => whnf))); refine callF m1 ⟨.refl _, .refl _, trivial⟩ (by trivial) rfl ?_)
    conv => whnf
    first | refine callF m2 ⟨.refl _, .refl _, trivial⟩ (by trivial) rfl ?_ | ((repeat (refine ⟨by kernel_rfl, ?_⟩; (conv => whnf))); refine callF m2 ⟨.refl _, .refl _, trivial⟩ (by trivial) rfl ?_)
    conv => whnf
    first | refine callF e1 ⟨.refl _, .refl _, trivial⟩ (by trivial) rfl ?_ | ((repeat (refine ⟨by kernel_rfl, ?_⟩; (conv => whnf))); refine callF e1 ⟨.refl _, .refl _, trivial⟩ (by trivial) rfl ?_)
    conv => whnf
    first | refine callF e0 ⟨.refl _, .refl _, trivial⟩ (by trivial) rfl ?_ | ((repeat (refine ⟨by kernel_rfl, ?_⟩; (conv => whnf))); refine callF e0 ⟨.refl _, .refl _, trivial⟩ (by trivial) rfl ?_)
    conv => whnf
    first | refine callF e0 ⟨.refl _, .refl _, trivial⟩ (by trivial) rfl ?_ | ((repeat (refine ⟨by kernel_rfl, ?_⟩; (conv => whnf))); refine callF e0 ⟨.refl _, .refl _, trivial⟩ (by trivial) rfl ?_)
    conv => whnf
    (repeat (refine ⟨by kernel_rfl, ?_⟩; (conv => whnf)))
    refine ⟨(by (try simp only [true_and, and_true, Nat.sub_zero, Nat.zero_add, Int.toNat_natCast]) <;> omega), ?_⟩
    exact .refl _
  · rw [if_neg h0] at d1 d2
    refine acall_rule env [0, 1, 4, 5, 6, 7, 8, 9, 10] Try.func5 rfl rfl rfl rfl ?_
    conv => whnf
    first | refine callF d1 ⟨.refl _, .refl _, trivial⟩ (by trivial) rfl ?_ | ((repeat (refine ⟨by kernel_rfl, ?_⟩; (conv => whnf))); refine callF d1 ⟨.refl _, .refl _, trivial⟩ (by trivial) rfl ?_)
    conv => whnf
    first | refine callF d2 ⟨.refl _, .refl _, trivial⟩ (by trivial) rfl ?_ | ((repeat (refine ⟨by kernel_rfl, ?_⟩; (conv => whnf))); refine callF d2 ⟨.refl _, .refl _, trivial⟩ (by trivial) rfl ?_)
    conv => whnf
    first | refine callF awake_ok trivial (by trivial) rfl ?_ | ((repeat (refine ⟨by kernel_rfl, ?_⟩; (conv => whnf))); refine callF awake_ok trivial (by trivial) rfl ?_)
    conv => whnf
    first | refine callF m1 ⟨.refl _, .refl _, trivial⟩ (by trivial) rfl ?_ | ((repeat (refine ⟨by kernel_rfl, ?_⟩; (conv => whnf))); refine callF m1 ⟨.refl _, .refl _, trivial⟩ (by trivial) rfl ?_)
    conv => whnf
    first | refine callF m2 ⟨.refl _, .refl _, trivial⟩ (by trivial) rfl ?_ | ((repeat (refine ⟨by kernel_rfl, ?_⟩; (conv => whnf))); refine callF m2 ⟨.refl _, .refl _, trivial⟩ (by trivial) rfl ?_)
    conv => whnf
    first | refine callF e1 ⟨.refl _, .refl _, trivial⟩ (by trivial) rfl ?_ | ((repeat (refine ⟨by kernel_rfl, ?_⟩; (conv => whnf))); refine callF e1 ⟨.refl _, .refl _, trivial⟩ (by trivial) rfl ?_)
    conv => whnf
    first | refine callF e2 ⟨.refl _, .refl _, trivial⟩ (by trivial) rfl ?_ | ((repeat (refine ⟨by kernel_rfl, ?_⟩; (conv => whnf))); refine callF e2 ⟨.refl _, .refl _, trivial⟩ (by trivial) rfl ?_)
    conv => whnf
    first | refine callF e3 ⟨.refl _, .refl _, trivial⟩ (by trivial) rfl ?_ | ((repeat (refine ⟨by kernel_rfl, ?_⟩; (conv => whnf))); refine callF e3 ⟨.refl _, .refl _, trivial⟩ (by trivial) rfl ?_)
    conv => whnf
    (repeat (refine ⟨by kernel_rfl, ?_⟩; (conv => whnf)))
    refine ⟨(by (try simp only [true_and, and_true, Nat.sub_zero, Nat.zero_add, Int.toNat_natCast]) <;> omega), ?_⟩
    exact .refl _

theorem NaturalDivides_ok (g h : Nat → Nat) (n m : Nat) (hg : Dig g n) (hh : Dig h m) (hn : n ≤ 1099511627776) (hm : m ≤ 1099511627776) :
    ACall Try.prog 7 [raw g n, raw h m] (.f (.bool true)) := by
  have hA := size_nval hg
  have hB := size_nval hh
  have d1 := DivMod_ok g h n m hg hh (by omega) (by omega)
  have b1 := Bits_ok h m hh (by omega)
  have sq := size_le_of (Nat.div_le_self (nval g n) (nval h m)) hA
  have sr := size_le_of (Nat.mod_le (nval g n) (nval h m)) hA
  have m1 := Mul_nr (nval g n / nval h m) h m hh (by omega)
  have e := Nat.div_add_mod (nval g n) (nval h m)
  rw [Nat.mul_comm] at e
  have sm : size (nval g n / nval h m * nval h m) ≤ n := size_le_of (by omega) hA
  have a1 := Add_nn (nval g n / nval h m * nval h m) (nval g n % nval h m) (by omega) (by omega)
  rw [e] at a1
  have c1 := Compare_nr (nval g n) g n (by omega) hg (by omega)
  rw [cmp_of_eq rfl] at c1
  have c2 := Compare_nr (nval g n % nval h m) h m (by omega) hh (by omega)
  unfold divRes at d1
  by_cases h0 : nval h m = 0
  · rw [if_pos h0] at d1
    rw [h0, show bitlen 0 = 0 from rfl] at b1
    refine acall_rule env [0, 1, 4, 5, 6, 7, 16] Try.func7 rfl rfl rfl rfl ?_
    conv => whnf
    first | refine callF d1 ⟨.refl _, .refl _, trivial⟩ (by trivial) rfl ?_ | ((repeat (refine ⟨by kernel_rfl, ?_⟩; (conv => whnf))); refine callF d1 ⟨.refl _, .refl _, trivial⟩ (by trivial) rfl ?_)
    conv => whnf
    first | refine callF b1 ⟨.refl _, trivial⟩ (by trivial) rfl ?_ | ((repeat (refine ⟨by kernel_rfl, ?_⟩; (conv => whnf))); refine callF b1 ⟨.refl _, trivial⟩ (by trivial) rfl ?_)
    conv => whnf
    first | refine callF awake_ok trivial (by trivial) rfl ?_ | ((repeat (refine ⟨by kernel_rfl, ?_⟩; (conv => whnf))); refine callF awake_ok trivial (by trivial) rfl ?_)
    conv => whnf
    (repeat (refine ⟨by kernel_rfl, ?_⟩; (conv => whnf)))
    refine ⟨(by (try simp only [true_and, and_true, Nat.sub_zero, Nat.zero_add, Int.toNat_natCast]) <;> omega), ?_⟩
    exact .refl _
  · rw [if_neg h0] at d1
    rw [cmp_of_lt (Nat.mod_lt _ (by omega))] at c2
    refine acall_rule env [0, 1, 4, 5, 6, 7, 16] Try.func7 rfl rfl rfl rfl ?_
    conv => whnf
    first | refine callF d1 ⟨.refl _, .refl _, trivial⟩ (by trivial) rfl ?_ | ((repeat (refine ⟨by kernel_rfl, ?_⟩; (conv => whnf))); refine callF d1 ⟨.refl _, .refl _, trivial⟩ (by trivial) rfl ?_)
    conv => whnf
    first | refine callF m1 ⟨.refl _, .refl _, trivial⟩ (by trivial) rfl ?_ | ((repeat (refine ⟨by kernel_rfl, ?_⟩; (conv => whnf))); refine callF m1 ⟨.refl _, .refl _, trivial⟩ (by trivial) rfl ?_)
    conv => whnf
    first | refine callF a1 ⟨.refl _, .refl _, trivial⟩ (by trivial) rfl ?_ | ((repeat (refine ⟨by kernel_rfl, ?_⟩; (conv => whnf))); refine callF a1 ⟨.refl _, .refl _, trivial⟩ (by trivial) rfl ?_)
    conv => whnf
    first | refine callF c1 ⟨.refl _, .refl _, trivial⟩ (by trivial) rfl ?_ | ((repeat (refine ⟨by kernel_rfl, ?_⟩; (conv => whnf))); refine callF c1 ⟨.refl _, .refl _, trivial⟩ (by trivial) rfl ?_)
    conv => whnf
    first | refine callF c2 ⟨.refl _, .refl _, trivial⟩ (by trivial) rfl ?_ | ((repeat (refine ⟨by kernel_rfl, ?_⟩; (conv => whnf))); refine callF c2 ⟨.refl _, .refl _, trivial⟩ (by trivial) rfl ?_)
    conv => whnf
    first | refine callF awake_ok trivial (by trivial) rfl ?_ | ((repeat (refine ⟨by kernel_rfl, ?_⟩; (conv => whnf))); refine callF awake_ok trivial (by trivial) rfl ?_)
    conv => whnf
    (repeat (refine ⟨by kernel_rfl, ?_⟩; (conv => whnf)))
    refine ⟨(by (try simp only [true_and, and_true, Nat.sub_zero, Nat.zero_add, Int.toNat_natCast]) <;> omega), ?_⟩
    exact .refl _

theorem NaturalGCD_ok (g h f : Nat → Nat) (n m k : Nat) (hg : Dig g n) (hh : Dig h m) (hf : Dig f k) (hn : n ≤ 1099511627776) (hm : m ≤ 1099511627776) (hk : k ≤ 1099511627776) :
    ACall Try.prog 8 [raw g n, raw h m, raw f k] (.f (.bool true)) := by
  have hA := size_nval hg
  have hB := size_nval hh
  have hC := size_nval hf
  have g1 := GCD_ok g h n m hg hh (by omega) (by omega)
  have g2 := refGCD_ok g h n m hg hh (by omega) (by omega)
  have sg : size (Nat.gcd (nval g n) (nval h m)) ≤ 1099511627776 := size_gcd_left (Nat.le_trans hA hn) (Nat.le_trans hB hm)
  have e1 := refEqual_same (Nat.gcd (nval g n) (nval h m)) (by omega)
  have m1 := Mul_ok g f n k hg hf (by omega)
  have m2 := Mul_ok h f m k hh hf (by omega)
  have sm1 := size_mul (Nat.le_trans hA hn) (Nat.le_trans hC hk)
  have sm2 := size_mul (Nat.le_trans hB hm) (Nat.le_trans hC hk)
  have g3 := GCD_nn (nval g n * nval f k) (nval h m * nval f k) (by omega) (by omega)
  rw [Nat.gcd_mul_right] at g3
  have m3 := Mul_nr (Nat.gcd (nval g n) (nval h m)) f k hf (by omega)
  have e2 := refEqual_same (Nat.gcd (nval g n) (nval h m) * nval f k) (Nat.le_trans (size_mul sg (Nat.le_trans hC hk)) (by omega))
  have d1 := DivMod_rn (Nat.gcd (nval g n) (nval h m)) g n hg (by omega) (by omega)
  have d2 := DivMod_rn (Nat.gcd (nval g n) (nval h m)) h m hh (by omega) (by omega)
  have b1 := Bits_ok g n hg (by omega)
  have b2 := Bits_ok h m hh (by omega)
  have sx := size_le_of (Nat.div_le_self (nval g n) (Nat.gcd (nval g n) (nval h m))) hA
  have sy := size_le_of (Nat.div_le_self (nval h m) (Nat.gcd (nval g n) (nval h m))) hB
  have g4 := GCD_nn (nval g n / Nat.gcd (nval g n) (nval h m)) (nval h m / Nat.gcd (nval g n) (nval h m)) (by omega) (by omega)
  have e3 := refEqual_lit 1 1 [1] (size_eq (n := 0) (by decide) (by decide)) (by unfold Dig; decide) (by decide) (by omega)
  unfold divRes at d1 d2
  by_cases h0 : Nat.gcd (nval g n) (nval h m) = 0
  · rw [if_pos h0] at d1 d2
    obtain ⟨z1, z2⟩ := Nat.gcd_eq_zero_iff.1 h0
    rw [z1, show bitlen 0 = 0 from rfl] at b1
    rw [z2, show bitlen 0 = 0 from rfl] at b2
    refine acall_rule env [0, 1, 2, 6, 7, 8, 9, 10, 11, 12, 40, 56] Try.func8 rfl rfl rfl rfl ?_
    conv => whnf
    first | refine callF g1 ⟨.refl _, .refl _, trivial⟩ (by trivial) rfl ?_ | ((repeat (refine ⟨by kernel_rfl, ?_⟩; (conv => whnf))); refine callF g1 ⟨.refl _, .refl _, trivial⟩ (by trivial) rfl ?_)
    conv => whnf
    first | refine callF awake_ok trivial (by trivial) rfl ?_ | ((repeat (refine ⟨by kernel_rfl, ?_⟩; (conv => whnf))); refine callF awake_ok trivial (by trivial) rfl ?_)
    conv => whnf
    first | refine callF g2 ⟨.refl _, .refl _, trivial⟩ (by trivial) rfl ?_ | ((repeat (refine ⟨by kernel_rfl, ?_⟩; (conv => whnf))); refine callF g2 ⟨.refl _, .refl _, trivial⟩ (by trivial) rfl ?_)
    conv => whnf
    first | refine callF e1 ⟨.refl _, .refl _, trivial⟩ (by trivial) rfl ?_ | ((repeat (refine ⟨by kernel_rfl, ?_⟩; (conv => whnf))); refine callF e1 ⟨.refl _, .refl _, trivial⟩ (by trivial) rfl ?_)
    conv => whnf
    first | refine callF m1 ⟨.refl _, .refl _, trivial⟩ (by trivial) rfl ?_ | ((repeat (refine ⟨by kernel_rfl, ?_⟩; (conv => whnf))); refine callF m1 ⟨.refl _, .refl _, trivial⟩ (by trivial) rfl ?_)
    conv => whnf
    first | refine callF m2 ⟨.refl _, .refl _, trivial⟩ (by trivial) rfl ?_ | ((repeat (refine ⟨by kernel_rfl, ?_⟩; (conv => whnf))); refine callF m2 ⟨.refl _, .refl _, trivial⟩ (by trivial) rfl ?_)
    conv => whnf
    first | refine callF g3 ⟨.refl _, .refl _, trivial⟩ (by trivial) rfl ?_ | ((repeat (refine ⟨by kernel_rfl, ?_⟩; (conv => whnf))); refine callF g3 ⟨.refl _, .refl _, trivial⟩ (by trivial) rfl ?_)
    conv => whnf
    first | refine callF m3 ⟨.refl _, .refl _, trivial⟩ (by trivial) rfl ?_ | ((repeat (refine ⟨by kernel_rfl, ?_⟩; (conv => whnf))); refine callF m3 ⟨.refl _, .refl _, trivial⟩ (by trivial) rfl ?_)
    conv => whnf
    first | refine callF e2 ⟨.refl _, .refl _, trivial⟩ (by trivial) rfl ?_ | ((repeat (refine ⟨by kernel_rfl, ?_⟩; (conv => whnf))); refine callF e2 ⟨.refl _, .refl _, trivial⟩ (by trivial) rfl ?_)
    conv => whnf
    first | refine callF d1 ⟨.refl _, .refl _, trivial⟩ (by trivial) rfl ?_ | ((repeat (refine ⟨by kernel_rfl, ?_⟩; (conv => whnf))); refine callF d1 ⟨.refl _, .refl _, trivial⟩ (by trivial) rfl ?_)
    conv => whnf
    first | refine callF d2 ⟨.refl _, .refl _, trivial⟩ (by trivial) rfl ?_ | ((repeat (refine ⟨by kernel_rfl, ?_⟩; (conv => whnf))); refine callF d2 ⟨.refl _, .refl _, trivial⟩ (by trivial) rfl ?_)
    conv => whnf
    first | refine callF b1 ⟨.refl _, trivial⟩ (by trivial) rfl ?_ | ((repeat (refine ⟨by kernel_rfl, ?_⟩; (conv => whnf))); refine callF b1 ⟨.refl _, trivial⟩ (by trivial) rfl ?_)
    conv => whnf
    first | refine callF b2 ⟨.refl _, trivial⟩ (by trivial) rfl ?_ | ((repeat (refine ⟨by kernel_rfl, ?_⟩; (conv => whnf))); refine callF b2 ⟨.refl _, trivial⟩ (by trivial) rfl ?_)
    conv => whnf
    (repeat (refine ⟨by kernel_rfl, ?_⟩; (conv => whnf)))
    refine ⟨(by (try simp only [true_and, and_true, Nat.sub_zero, Nat.zero_add, Int.toNat_natCast]) <;> omega), ?_⟩
    exact .refl _
  · rw [if_neg h0, Nat.mod_eq_zero_of_dvd (Nat.gcd_dvd_left _ _)] at d1
    rw [if_neg h0, Nat.mod_eq_zero_of_dvd (Nat.gcd_dvd_right _ _)] at d2
    rw [Nat.gcd_div (Nat.gcd_dvd_left _ _) (Nat.gcd_dvd_right _ _), Nat.div_self (by omega)] at g4
    refine acall_rule env [0, 1, 2, 6, 7, 8, 9, 10, 11, 12, 40, 56] Try.func8 rfl rfl rfl rfl ?_
    conv => whnf
    first | refine callF g1 ⟨.refl _, .refl _, trivial⟩ (by trivial) rfl ?_ | ((repeat (refine ⟨by kernel_rfl, ?_⟩; (conv => whnf))); refine callF g1 ⟨.refl _, .refl _, trivial⟩ (by trivial) rfl ?_)
    conv => whnf
    first | refine callF awake_ok trivial (by trivial) rfl ?_ | ((repeat (refine ⟨by kernel_rfl, ?_⟩; (conv => whnf))); refine callF awake_ok trivial (by trivial) rfl ?_)
    conv => whnf
    first | refine callF g2 ⟨.refl _, .refl _, trivial⟩ (by trivial) rfl ?_ | ((repeat (refine ⟨by kernel_rfl, ?_⟩; (conv => whnf))); refine callF g2 ⟨.refl _, .refl _, trivial⟩ (by trivial) rfl ?_)
    conv => whnf
    first | refine callF e1 ⟨.refl _, .refl _, trivial⟩ (by trivial) rfl ?_ | ((repeat (refine ⟨by kernel_rfl, ?_⟩; (conv => whnf))); refine callF e1 ⟨.refl _, .refl _, trivial⟩ (by trivial) rfl ?_)
    conv => whnf
    first | refine callF m1 ⟨.refl _, .refl _, trivial⟩ (by trivial) rfl ?_ | ((repeat (refine ⟨by kernel_rfl, ?_⟩; (conv => whnf))); refine callF m1 ⟨.refl _, .refl _, trivial⟩ (by trivial) rfl ?_)
    conv => whnf
    first | refine callF m2 ⟨.refl _, .refl _, trivial⟩ (by trivial) rfl ?_ | ((repeat (refine ⟨by kernel_rfl, ?_⟩; (conv => whnf))); refine callF m2 ⟨.refl _, .refl _, trivial⟩ (by trivial) rfl ?_)
    conv => whnf
    first | refine callF g3 ⟨.refl _, .refl _, trivial⟩ (by trivial) rfl ?_ | ((repeat (refine ⟨by kernel_rfl, ?_⟩; (conv => whnf))); refine callF g3 ⟨.refl _, .refl _, trivial⟩ (by trivial) rfl ?_)
    conv => whnf
    first | refine callF m3 ⟨.refl _, .refl _, trivial⟩ (by trivial) rfl ?_ | ((repeat (refine ⟨by kernel_rfl, ?_⟩; (conv => whnf))); refine callF m3 ⟨.refl _, .refl _, trivial⟩ (by trivial) rfl ?_)
    conv => whnf
    first | refine callF e2 ⟨.refl _, .refl _, trivial⟩ (by trivial) rfl ?_ | ((repeat (refine ⟨by kernel_rfl, ?_⟩; (conv => whnf))); refine callF e2 ⟨.refl _, .refl _, trivial⟩ (by trivial) rfl ?_)
    conv => whnf
    first | refine callF d1 ⟨.refl _, .refl _, trivial⟩ (by trivial) rfl ?_ | ((repeat (refine ⟨by kernel_rfl, ?_⟩; (conv => whnf))); refine callF d1 ⟨.refl _, .refl _, trivial⟩ (by trivial) rfl ?_)
    conv => whnf
    first | refine callF d2 ⟨.refl _, .refl _, trivial⟩ (by trivial) rfl ?_ | ((repeat (refine ⟨by kernel_rfl, ?_⟩; (conv => whnf))); refine callF d2 ⟨.refl _, .refl _, trivial⟩ (by trivial) rfl ?_)
    conv => whnf
    first | refine callF g4 ⟨.refl _, .refl _, trivial⟩ (by trivial) rfl ?_ | ((repeat (refine ⟨by kernel_rfl, ?_⟩; (conv => whnf))); refine callF g4 ⟨.refl _, .refl _, trivial⟩ (by trivial) rfl ?_)
    conv => whnf
    refine callF e3 ⟨.refl _, (.raw_of fun j hj => match j, hj with | 0, _ => rfl), trivial⟩ (by simp) rfl ?_
    conv => whnf
    (repeat (refine ⟨by kernel_rfl, ?_⟩; (conv => whnf)))
    refine ⟨(by (try simp only [true_and, and_true, Nat.sub_zero, Nat.zero_add, Int.toNat_natCast]) <;> omega), ?_⟩
    exact .refl _
end Go.Abs

/- Natural numbers: ShiftLeft, ShiftRight. -/
set_option autoImplicit false
set_option maxHeartbeats 4000000
set_option maxRecDepth 10000
set_option linter.unusedVariables false
set_option linter.unusedSimpArgs false
namespace Go.Abs
open Go Go.Proofs

theorem digit_up (N D j : Nat) : digit (N * pw D) j = if j < D then 0 else digit N (j - D) := by
  unfold digit
  split
  · rename_i h
    obtain ⟨e, rfl⟩ : ∃ e, D = j + 1 + e := ⟨D - (j + 1), by omega⟩
    rw [pw_add, pw_succ, show N * (pw j * 4294967296 * pw e) = pw j * (N * pw e * 4294967296) by ac_rfl, Nat.mul_div_cancel_left _ (pw_pos _), Nat.mul_mod_left]
  · rename_i h
    obtain ⟨e, rfl⟩ : ∃ e, j = D + e := ⟨j - D, by omega⟩
    rw [pw_add, Nat.mul_comm N, Nat.mul_div_mul_left _ _ (pw_pos _), Nat.add_sub_cancel_left]
theorem digit_down (N D j : Nat) : digit (N / pw D) j = digit N (j + D) := by
  unfold digit
  rw [Nat.div_div_eq_div_mul, ← pw_add, Nat.add_comm]
theorem size_down {N D : Nat} (h : D ≤ size N) : size (N / pw D) = size N - D := by
  rcases Nat.eq_zero_or_pos (size N - D) with h0 | h0
  · rw [h0, show D = size N by omega, Nat.div_eq_of_lt (lt_pw_size N)]; rfl
  · apply Nat.le_antisymm
    · apply size_le
      rw [Nat.div_lt_iff_lt_mul (pw_pos _), ← pw_add, Nat.sub_add_cancel h]
      exact lt_pw_size N
    · rcases Nat.lt_or_ge (size (N / pw D)) (size N - D) with h1 | h1
      · exfalso
        have h2 := lt_pw_size (N / pw D)
        have h3 : pw (size N - 1) ≤ N := pw_size_le (by omega)
        rw [Nat.div_lt_iff_lt_mul (pw_pos _), ← pw_add] at h2
        have h4 := pw_le (show size (N / pw D) + D ≤ size N - 1 by omega)
        omega
      · exact h1

def shlRes (A : Nat) (k : Int) : AV := if k < 0 ∨ 65536 < k then .tup [nat 0, .f (.bool false)] else .tup [nat (A * 2 ^ k.toNat), .f (.bool true)]
def shrRes (A : Nat) (k : Int) : AV := if k < 0 then .tup [nat 0, .f (.bool false)] else .tup [nat (A / 2 ^ k.toNat), .f (.bool true)]

theorem ShiftLeft_ok (g : Nat → Nat) (n : Nat) (k : Int) (hg : Dig g n) (hn : n ≤ 4398046500000) (hk : -9223372036854775808 ≤ k ∧ k ≤ 9223372036854775807) :
    ACall Try.prog 35 [raw g n, .f (.int .i64 k)] (shlRes (nval g n) k) := by
  have v := view_ok g n hg (by omega)
  have hA := size_nval hg
  generalize nval g n = A at *
  unfold shlRes
  by_cases h1 : k < 0 ∨ 65536 < k
  · rw [if_pos h1]
    refine acall_rule env [0, 1, 4, 5, 6, 12, 17] Try.func35 rfl rfl rfl rfl ?_
    conv => whnf
    refine spl (fun h2 => ?_) (fun h2 => ?_) <;> simp only [decide_eq_true_eq, decide_eq_false_iff_not, Bool.not_eq_true', Bool.not_eq_false', gt_iff_lt, ge_iff_le] at h2
    · conv => whnf
      refine ⟨(by (try simp only [true_and, and_true, Nat.sub_zero, Nat.zero_add, Int.toNat_natCast]) <;> omega), ?_⟩
      exact .tup ⟨.nil_nat, .refl _, trivial⟩
    · conv => whnf
      refine splT (decide_eq_true (show k > 65536 by omega)) ?_
      conv => whnf
      refine ⟨(by (try simp only [true_and, and_true, Nat.sub_zero, Nat.zero_add, Int.toNat_natCast]) <;> omega), ?_⟩
      exact .tup ⟨.nil_nat, .refl _, trivial⟩
  rw [if_neg h1]
  obtain ⟨K, rfl⟩ : ∃ K : Nat, k = K := ⟨k.toNat, by omega⟩
  rw [Int.toNat_natCast]
  by_cases h0 : A = 0
  · subst h0
    rw [Nat.zero_mul]
    refine acall_rule env [0, 1, 4, 5, 6, 12, 17] Try.func35 rfl rfl rfl rfl ?_
    conv => whnf
    refine splF (by simp only [decide_eq_true_eq, decide_eq_false_iff_not, Bool.not_eq_true', Bool.not_eq_false', gt_iff_lt, ge_iff_le] <;> omega) ?_
    conv => whnf
    first | refine callF v ⟨.refl _, trivial⟩ (by trivial) rfl ?_ | ((repeat (refine ⟨by kernel_rfl, ?_⟩; (conv => whnf))); refine callF v ⟨.refl _, trivial⟩ (by trivial) rfl ?_)
    conv => whnf
    refine ⟨(by (try simp only [true_and, and_true, Nat.sub_zero, Nat.zero_add, Int.toNat_natCast]) <;> omega), ?_⟩
    exact .tup ⟨.nil_nat, .refl _, trivial⟩
  have hs : 1 ≤ size A := by
    rcases Nat.eq_zero_or_pos (size A) with h | h
    · exact absurd (size_eq_zero.1 h) h0
    · exact h
  have l := left_ok A (K % 32) (Nat.mod_lt _ (by decide)) (by omega)
  have hp : A * 2 ^ K = A * 2 ^ (K % 32) * pw (K / 32) := by
    rw [pw_two, Nat.mul_assoc, ← Nat.pow_add, Nat.mod_add_div]
  have hlt : A * 2 ^ (K % 32) < pw (size A + 1) := by
    rw [pw_succ]
    have h32 := two_pow_le (show K % 32 ≤ 32 by omega)
    exact Nat.lt_of_lt_of_le ((Nat.mul_lt_mul_right (Nat.pow_pos (by decide))).2 (lt_pw_size A)) (Nat.mul_le_mul_left _ h32)
  obtain ⟨D, hD⟩ : ∃ D, K / 32 = D := ⟨_, rfl⟩
  obtain ⟨r, hr⟩ : ∃ r, K % 32 = r := ⟨_, rfl⟩
  have hr32 : r < 32 := by omega
  rw [hD, hr] at hp
  rw [hr] at l hlt
  have v2 := view_ok (digit (A * 2 ^ K)) (D + (size A + 1)) (digit_Dig _ _) (by omega)
  have hlt2 : A * 2 ^ K < pw (D + (size A + 1)) := by
    rw [hp, pw_add, Nat.mul_comm]; exact (Nat.mul_lt_mul_left (pw_pos _)).2 hlt
  rw [nval_digit, Nat.mod_eq_of_lt hlt2] at v2
  have hdig := fun j => digit_up (A * 2 ^ r) D j
  rw [← hp] at hdig
  refine acall_rule env [0, 1, 4, 5, 6, 12, 17] Try.func35 rfl rfl rfl rfl ?_
  conv => whnf
  refine splF (by simp only [decide_eq_true_eq, decide_eq_false_iff_not, Bool.not_eq_true', Bool.not_eq_false', gt_iff_lt, ge_iff_le] <;> omega) ?_
  conv => whnf
  first | refine callF v ⟨.refl _, trivial⟩ (by trivial) rfl ?_ | ((repeat (refine ⟨by kernel_rfl, ?_⟩; (conv => whnf))); refine callF v ⟨.refl _, trivial⟩ (by trivial) rfl ?_)
  conv => whnf
  refine splF (by simp only [decide_eq_true_eq, decide_eq_false_iff_not, Bool.not_eq_true', Bool.not_eq_false', gt_iff_lt, ge_iff_le] <;> omega) ?_
  conv => whnf
  refine ⟨(by (try simp only [true_and, and_true, Nat.sub_zero, Nat.zero_add, Int.toNat_natCast]) <;> omega), ?_⟩
  conv => whnf
  refine quoi64 (b := 32) (by omega) ?_
  conv => whnf
  refine ⟨(by (try simp only [true_and, and_true, Nat.sub_zero, Nat.zero_add, Int.toNat_natCast]) <;> omega), ?_⟩
  conv => whnf
  refine quoi64 (b := 32) (by omega) ?_
  conv => whnf
  rw [hD]
  conv => whnf
  refine sumi64 (D + size A) (by omega) (by omega) ?_
  conv => whnf
  refine sumi64 (D + size A + 1) (by omega) (by omega) ?_
  conv => whnf
  refine ⟨(by (try simp only [true_and, and_true, Nat.sub_zero, Nat.zero_add, Int.toNat_natCast]) <;> omega), ?_⟩
  conv => whnf
  refine ⟨(by (try simp only [true_and, and_true, Nat.sub_zero, Nat.zero_add, Int.toNat_natCast]) <;> omega), ?_⟩
  conv => whnf
  refine remN (b := 32) ?_
  conv => whnf
  rw [hr]
  conv => whnf
  refine sumu64 r rfl (by omega) ?_
  conv => whnf
  refine callR [] l ?_
  conv => whnf
  refine ⟨⟨.refl _, .refl _, trivial⟩, trivial, ?_⟩
  conv => whnf
  refine ⟨⟨by omega, by omega, by omega, .inl (by omega)⟩, ?_⟩
  conv => whnf
  refine callF v2 ⟨.f (.sl (fun i hi => ?_) (.inl rfl)), trivial⟩ ?_ rfl ?_
  conv => whnf
  · simp only [Nat.zero_add, Int.toNat_natCast, hdig]
    split
    · exact ⟨.refl _, trivial⟩
    · exact ⟨.refl _, trivial⟩
  · exact ⟨by omega, trivial⟩
  conv => whnf
  (repeat (refine ⟨by kernel_rfl, ?_⟩; (conv => whnf)))
  refine ⟨(by (try simp only [true_and, and_true, Nat.sub_zero, Nat.zero_add, Int.toNat_natCast]) <;> omega), ?_⟩
  exact .refl _

theorem ShiftRight_ok (g : Nat → Nat) (n : Nat) (k : Int) (hg : Dig g n) (hn : n ≤ 4398046500000) (hk : -9223372036854775808 ≤ k ∧ k ≤ 9223372036854775807) :
    ACall Try.prog 37 [raw g n, .f (.int .i64 k)] (shrRes (nval g n) k) := by
  have v := view_ok g n hg (by omega)
  have hA := size_nval hg
  generalize nval g n = A at *
  unfold shrRes
  by_cases h1 : k < 0
  · rw [if_pos h1]
    refine acall_rule env [0, 1, 4, 5, 7, 14] Try.func37 rfl rfl rfl rfl ?_
    conv => whnf
    refine splT (by simp only [decide_eq_true_eq, decide_eq_false_iff_not, Bool.not_eq_true', Bool.not_eq_false', gt_iff_lt, ge_iff_le] <;> omega) ?_
    conv => whnf
    refine ⟨(by (try simp only [true_and, and_true, Nat.sub_zero, Nat.zero_add, Int.toNat_natCast]) <;> omega), ?_⟩
    exact .tup ⟨.nil_nat, .refl _, trivial⟩
  rw [if_neg h1]
  obtain ⟨K, rfl⟩ : ∃ K : Nat, k = K := ⟨k.toNat, by omega⟩
  rw [Int.toNat_natCast]
  have hp : A / 2 ^ K = A / pw (K / 32) / 2 ^ (K % 32) := by
    rw [pw_two, Nat.div_div_eq_div_mul, ← Nat.pow_add, Nat.add_comm, Nat.mod_add_div]
  obtain ⟨D, hD⟩ : ∃ D, K / 32 = D := ⟨_, rfl⟩
  obtain ⟨r, hr⟩ : ∃ r, K % 32 = r := ⟨_, rfl⟩
  have hr32 : r < 32 := by omega
  rw [hD, hr] at hp
  rw [hp]
  by_cases h0 : size A ≤ D
  · have : A / pw D = 0 := Nat.div_eq_of_lt (Nat.lt_of_lt_of_le (lt_pw_size A) (pw_le h0))
    rw [this, Nat.zero_div]
    refine acall_rule env [0, 1, 4, 5, 7, 14] Try.func37 rfl rfl rfl rfl ?_
    conv => whnf
    first | refine callF v ⟨.refl _, trivial⟩ (by trivial) rfl ?_ | ((repeat (refine ⟨by kernel_rfl, ?_⟩; (conv => whnf))); refine callF v ⟨.refl _, trivial⟩ (by trivial) rfl ?_)
    conv => whnf
    refine ⟨(by (try simp only [true_and, and_true, Nat.sub_zero, Nat.zero_add, Int.toNat_natCast]) <;> omega), ?_⟩
    conv => whnf
    refine quoi64 (b := 32) (by omega) ?_
    conv => whnf
    rw [hD]
    conv => whnf
    refine splT (by simp only [decide_eq_true_eq, decide_eq_false_iff_not, Bool.not_eq_true', Bool.not_eq_false', gt_iff_lt, ge_iff_le] <;> omega) ?_
    conv => whnf
    refine ⟨(by (try simp only [true_and, and_true, Nat.sub_zero, Nat.zero_add, Int.toNat_natCast]) <;> omega), ?_⟩
    exact .tup ⟨.nil_nat, .refl _, trivial⟩
  have l := right_ok (A / pw D) r hr32 (Nat.le_trans (size_mono (Nat.div_le_self _ _)) (by omega))
  have hsz := size_down (N := A) (D := D) (by omega)
  have hna : nat (A / pw D) = .f (.sl 1 (fun j => [.int .u32 (digit (A / pw D) j : Nat)]) (size A - D) none) := by unfold nat; rw [hsz]
  rw [hna] at l
  refine acall_rule env [0, 1, 4, 5, 7, 14] Try.func37 rfl rfl rfl rfl ?_
  conv => whnf
  first | refine callF v ⟨.refl _, trivial⟩ (by trivial) rfl ?_ | ((repeat (refine ⟨by kernel_rfl, ?_⟩; (conv => whnf))); refine callF v ⟨.refl _, trivial⟩ (by trivial) rfl ?_)
  conv => whnf
  refine ⟨(by (try simp only [true_and, and_true, Nat.sub_zero, Nat.zero_add, Int.toNat_natCast]) <;> omega), ?_⟩
  conv => whnf
  refine quoi64 (b := 32) (by omega) ?_
  conv => whnf
  rw [hD]
  conv => whnf
  refine splF (by simp only [decide_eq_true_eq, decide_eq_false_iff_not, Bool.not_eq_true', Bool.not_eq_false', gt_iff_lt, ge_iff_le] <;> omega) ?_
  conv => whnf
  refine ⟨(by (try simp only [true_and, and_true, Nat.sub_zero, Nat.zero_add, Int.toNat_natCast]) <;> omega), ?_⟩
  conv => whnf
  refine quoi64 (b := 32) (by omega) ?_
  conv => whnf
  rw [hD]
  conv => whnf
  refine ⟨(by (try simp only [true_and, and_true, Nat.sub_zero, Nat.zero_add, Int.toNat_natCast]) <;> omega), ?_⟩
  conv => whnf
  refine ⟨(by (try simp only [true_and, and_true, Nat.sub_zero, Nat.zero_add, Int.toNat_natCast]) <;> omega), ?_⟩
  conv => whnf
  refine remN (b := 32) ?_
  conv => whnf
  rw [hr]
  conv => whnf
  refine sumu64 r rfl (by omega) ?_
  conv => whnf
  refine callF l ⟨.f (.sl (fun i hi => ?_) (.inl rfl)), .refl _, trivial⟩ ?_ rfl ?_
  conv => whnf
  · simp only [Int.toNat_natCast, digit_down, Nat.add_comm D]
    exact ⟨.refl _, trivial⟩
  · exact ⟨trivial, trivial, trivial⟩
  (repeat (refine ⟨by kernel_rfl, ?_⟩; (conv => whnf)))
  refine ⟨(by (try simp only [true_and, and_true, Nat.sub_zero, Nat.zero_add, Int.toNat_natCast]) <;> omega), ?_⟩
  exact .refl _
end Go.Abs

/- The reference's natural numbers: ShiftLeft, ShiftRight. -/
set_option autoImplicit false
set_option maxHeartbeats 4000000
set_option maxRecDepth 10000
set_option linter.unusedVariables false
set_option linter.unusedSimpArgs false
namespace Go.Abs
open Go Go.Proofs

theorem roomA_some {c need bytes : Nat} (h : need * bytes ≤ 140737488355328) : roomA (some c) need bytes := by
  by_cases hc : need ≤ c
  · exact .inl hc
  · exact .inr (growslice_fits (by omega) h)
theorem nval_up (g : Nat → Nat) (D : Nat) : ∀ n, nval (fun j => if j < D then 0 else g (j - D)) (D + n) = nval g n * pw D := by
  intro n
  induction n with
  | zero =>
    rw [nval_zero, Nat.zero_mul, Nat.add_zero]
    have : nval (fun j => if j < D then 0 else g (j - D)) D = nval (fun _ => 0) D := nval_congr fun j hj => if_pos hj
    rw [this]
    clear this
    induction D with
    | zero => rfl
    | succ D ih => rw [nval_succ, ih, Nat.zero_mul]
  | succ n ih =>
    rw [← Nat.add_assoc, nval_succ, ih, nval_succ, if_neg (by omega), Nat.add_sub_cancel_left, Nat.add_mul, pw_add]
    congr 1
    ac_rfl
/-- the next bit -/
theorem put_bit {M i : Nat} (hM : M < 2 ^ i) (k : Nat) : digit (M + 2 ^ i) k = if k = i / 32 then digit M k ||| 2 ^ (i % 32) else digit M k := by
  have hs : i % 32 < 32 := Nat.mod_lt _ (by decide)
  have hi : 2 ^ i = 2 ^ (i % 32) * pw (i / 32) := by rw [pw_two, ← Nat.pow_add, Nat.mod_add_div]
  have hp : 2 ^ (i % 32) < 4294967296 := Nat.pow_lt_pow_right (show 1 < 2 by decide) (show i % 32 < 32 from hs)
  have hd : M / pw (i / 32) < 2 ^ (i % 32) := by rw [Nat.div_lt_iff_lt_mul (pw_pos _), ← hi]; exact hM
  have h2 : 2 ^ (i % 32) + 2 ^ (i % 32) ≤ 4294967296 := by
    rw [← Nat.two_mul, Nat.mul_comm, ← Nat.pow_succ]
    exact Nat.pow_le_pow_right (show 0 < 2 by decide) (show i % 32 + 1 ≤ 32 by omega)
  rw [hi]
  rcases Nat.lt_trichotomy k (i / 32) with h | h | h
  · rw [digit_add_mul h, if_neg (by omega)]
  · subst h
    rw [if_pos rfl, digit_add_top (.inr trivial), digit, Nat.mod_eq_of_lt (a := M / pw (i / 32)) (by omega), Nat.mod_eq_of_lt (by omega), Nat.or_comm, Nat.add_comm]
    have := Nat.two_pow_add_eq_or_of_lt hd 1
    rw [Nat.mul_one] at this; exact this
  · obtain ⟨e, rfl⟩ : ∃ e, k = i / 32 + e := ⟨k - i / 32, by omega⟩
    rw [digit_add_up, if_neg (by omega)]
    have h1 : pw 1 ≤ pw e := pw_le (by omega)
    have h3 : pw 1 = 4294967296 := rfl
    rw [digit_small (Nat.lt_of_lt_of_le (show _ < 4294967296 by omega) (h3 ▸ h1)), digit_small]
    rw [hi] at hM
    rw [pw_add, Nat.mul_comm]
    exact Nat.lt_of_lt_of_le hM (Nat.mul_le_mul_right _ (by omega))

theorem refShiftLeft_ok (g : Nat → Nat) (n : Nat) (k : Int) (hg : Dig g n) (hn : n ≤ 4398046500000) (hk : -9223372036854775808 ≤ k ∧ k ≤ 9223372036854775807) :
    ACall Try.prog 36 [raw g n, .f (.int .i64 k)] (shlRes (nval g n) k) := by
  unfold shlRes
  by_cases h1 : k < 0 ∨ 65536 < k
  · rw [if_pos h1]
    refine acall_rule env [0, 1, 4, 5, 6, 7, 13, 23] Try.func36 rfl rfl rfl rfl ?_
    conv => whnf
    refine spl (fun h2 => ?_) (fun h2 => ?_) <;> simp only [decide_eq_true_eq, decide_eq_false_iff_not, Bool.not_eq_true', Bool.not_eq_false', gt_iff_lt, ge_iff_le] at h2
    · conv => whnf
      refine ⟨(by (try simp only [true_and, and_true, Nat.sub_zero, Nat.zero_add, Int.toNat_natCast]) <;> omega), ?_⟩
      exact .tup ⟨.nil_nat, .refl _, trivial⟩
    · conv => whnf
      refine splT (decide_eq_true (show k > 65536 by omega)) ?_
      conv => whnf
      refine ⟨(by (try simp only [true_and, and_true, Nat.sub_zero, Nat.zero_add, Int.toNat_natCast]) <;> omega), ?_⟩
      exact .tup ⟨.nil_nat, .refl _, trivial⟩
  rw [if_neg h1]
  obtain ⟨K, rfl⟩ : ∃ K : Nat, k = K := ⟨k.toNat, by omega⟩
  rw [Int.toNat_natCast]
  have hp : nval g n * 2 ^ K = nval g n * pw (K / 32) * 2 ^ (K % 32) := by
    rw [pw_two, Nat.mul_assoc, ← Nat.pow_add, Nat.add_comm, Nat.mod_add_div]
  obtain ⟨D, hD⟩ : ∃ D, K / 32 = D := ⟨_, rfl⟩
  obtain ⟨r, hr⟩ : ∃ r, K % 32 = r := ⟨_, rfl⟩
  have hr32 : r < 32 := by omega
  rw [hD, hr] at hp
  rw [hp]
  have hup := nval_up g D n
  have hdig : Dig (fun j => if j < D then 0 else g (j - D)) (D + n) := fun j hj => by
    show (if j < D then 0 else g (j - D)) < 4294967296
    split
    · decide
    · exact hg _ (by omega)
  have t1 := refTrim_ok _ _ hdig (by omega)
  have a1 := refAdd_ok _ _ _ _ hdig hdig (by omega) (by omega)
  rw [hup] at t1 a1
  have hlt := nval_lt hdig
  rw [hup] at hlt
  obtain ⟨B, hB⟩ : ∃ B, nval g n * pw D = B := ⟨_, rfl⟩
  rw [hB] at t1 a1 hlt ⊢
  have hsz : ∀ i, i < 32 → size (B * 2 ^ i) ≤ D + n + 1 := by
    intro i hi
    apply size_le
    rw [pw_succ]
    exact Nat.lt_of_lt_of_le ((Nat.mul_lt_mul_right (Nat.pow_pos (by decide))).2 hlt) (Nat.mul_le_mul_left _ (two_pow_le (show i ≤ 32 by omega)))
  refine acall_rule env [0, 1, 4, 5, 6, 7, 13, 23] Try.func36 rfl rfl rfl rfl ?_
  conv => whnf
  refine splF (by simp only [decide_eq_true_eq, decide_eq_false_iff_not, Bool.not_eq_true', Bool.not_eq_false', gt_iff_lt, ge_iff_le] <;> omega) ?_
  conv => whnf
  refine ⟨(by (try simp only [true_and, and_true, Nat.sub_zero, Nat.zero_add, Int.toNat_natCast]) <;> omega), ?_⟩
  conv => whnf
  refine quoi64 (b := 32) (by omega) ?_
  conv => whnf
  rw [hD]
  conv => whnf
  refine ⟨(by (try simp only [true_and, and_true, Nat.sub_zero, Nat.zero_add, Int.toNat_natCast]) <;> omega), ?_⟩
  conv => whnf
  refine ⟨⟨trivial, by omega, by omega, roomA_some (by show ((D : Int).toNat + n) * 4 ≤ _; omega)⟩, ?_⟩
  conv => whnf
  refine .weak (freeze_weak 19 1 _ rfl) ?_
  refine loop_mod [1, 6, 7] [19] [6] [19]
    (fun μ fr hp => ∃ (i : Nat) (v : AV), fr = [(1, .f (.int .i64 K)), (6, v), (7, .f (.int .i64 i))] ∧ hp = [(19, 1, .fz 1 (D + n) (fun j => [.int .u32 ((if j < D then 0 else g (j - D) : Nat) : Int)]))] ∧ μ = r - i ∧ i ≤ r ∧
      (v = .lsl 19 1 1 0 (D + n) none ∧ i = 0 ∨ v = nat (B * 2 ^ i)))
    (fun e fr hp => e = .exit 0 ∧ ∃ v, fr = [(6, v)] ∧ hp = [(19, 1, .fz 1 (D + n) (fun j => [.int .u32 ((if j < D then 0 else g (j - D) : Nat) : Int)]))] ∧
      (v = .lsl 19 1 1 0 (D + n) none ∧ r = 0 ∨ v = nat (B * 2 ^ r)))
    ⟨_, _, _, _, rfl, ?_, 0, _, rfl, rfl, rfl, Nat.zero_le _, .inl ⟨rfl, rfl⟩⟩ ?_ ?_
  · refine ⟨⟨rfl, rfl⟩, .fz fun j hj => ?_, trivial⟩
    simp only [Nat.zero_add, Int.toNat_natCast]
    split
    · exact .one (.refl _)
    · exact .one (.refl _)
  · rintro _ _ _ ⟨rfl, v, rfl, rfl, ⟨rfl, h0⟩ | rfl⟩
    · subst h0
      rw [Nat.pow_zero, Nat.mul_one]
      conv => whnf
      refine callF t1 ⟨.raw_of (fun j hj => by simp only [Nat.zero_add]), trivial⟩ ?_ rfl ?_
      conv => whnf
      · exact ⟨by omega, trivial⟩
      (repeat (refine ⟨by kernel_rfl, ?_⟩; (conv => whnf)))
      refine ⟨(by (try simp only [true_and, and_true, Nat.sub_zero, Nat.zero_add, Int.toNat_natCast]) <;> omega), ?_⟩
      exact .refl _
    · have t2 := refTrim_nn (B * 2 ^ r) (Nat.le_trans (hsz r hr32) (by omega))
      conv => whnf
      first | refine callF t2 ⟨.refl _, trivial⟩ (by trivial) rfl ?_ | ((repeat (refine ⟨by kernel_rfl, ?_⟩; (conv => whnf))); refine callF t2 ⟨.refl _, trivial⟩ (by trivial) rfl ?_)
      conv => whnf
      (repeat (refine ⟨by kernel_rfl, ?_⟩; (conv => whnf)))
      refine ⟨(by (try simp only [true_and, and_true, Nat.sub_zero, Nat.zero_add, Int.toNat_natCast]) <;> omega), ?_⟩
      exact .refl _
  rintro μ _ _ ⟨i, v, rfl, rfl, hμ, hi, hv⟩
  rcases hv with ⟨rfl, h0⟩ | rfl
  · subst h0
    conv => whnf
    refine ⟨(by (try simp only [true_and, and_true, Nat.sub_zero, Nat.zero_add, Int.toNat_natCast]) <;> omega), ?_⟩
    conv => whnf
    refine remN (b := 32) ?_
    conv => whnf
    rw [hr]
    conv => whnf
    refine spl (fun h3 => ?_) (fun h3 => ?_) <;> simp only [decide_eq_true_eq, decide_eq_false_iff_not, Bool.not_eq_true', Bool.not_eq_false', gt_iff_lt, ge_iff_le] at h3
    · conv => whnf
      refine callF a1 ⟨.raw_of (fun j hj => by simp only [Nat.zero_add]), .raw_of (fun j hj => by simp only [Nat.zero_add]), trivial⟩ ?_ rfl ?_
      conv => whnf
      · exact ⟨by omega, by omega, trivial⟩
      refine sumi64 1 (by omega) (by omega) ?_
      conv => whnf
      exact ⟨_, by omega, _, _, _, rfl, .refl _, 1, _, rfl, rfl, rfl, by omega, .inr (by rw [Nat.pow_one, Nat.mul_two]; rfl)⟩
    · conv => whnf
      exact ⟨_, _, _, rfl, .refl _, rfl, _, rfl, rfl, .inl ⟨rfl, by omega⟩⟩
  · have hz := hsz i (by omega)
    have a2 := refAdd_nn (B * 2 ^ i) (B * 2 ^ i) (by omega) (by omega)
    conv => whnf
    refine ⟨(by (try simp only [true_and, and_true, Nat.sub_zero, Nat.zero_add, Int.toNat_natCast]) <;> omega), ?_⟩
    conv => whnf
    refine remN (b := 32) ?_
    conv => whnf
    rw [hr]
    conv => whnf
    refine spl (fun h3 => ?_) (fun h3 => ?_) <;> simp only [decide_eq_true_eq, decide_eq_false_iff_not, Bool.not_eq_true', Bool.not_eq_false', gt_iff_lt, ge_iff_le] at h3
    · conv => whnf
      first | refine callF a2 ⟨.refl _, .refl _, trivial⟩ (by trivial) rfl ?_ | ((repeat (refine ⟨by kernel_rfl, ?_⟩; (conv => whnf))); refine callF a2 ⟨.refl _, .refl _, trivial⟩ (by trivial) rfl ?_)
      conv => whnf
      refine sumi64 (i + 1) (by omega) (by omega) ?_
      conv => whnf
      exact ⟨_, by omega, _, _, _, rfl, .refl _, i + 1, _, rfl, rfl, rfl, by omega, .inr (by rw [Nat.pow_succ, ← Nat.mul_assoc, Nat.mul_two]; rfl)⟩
    · conv => whnf
      have : i = r := by omega
      subst this
      exact ⟨_, _, _, rfl, .refl _, rfl, _, rfl, rfl, .inr rfl⟩

theorem refShiftRight_ok (g : Nat → Nat) (n : Nat) (k : Int) (hg : Dig g n) (hn : n ≤ 4398046500000) (hk : -9223372036854775808 ≤ k ∧ k ≤ 9223372036854775807) :
    ACall Try.prog 38 [raw g n, .f (.int .i64 k)] (shrRes (nval g n) k) := by
  have v := refTrim_ok g n hg (by omega)
  have hA := size_nval hg
  generalize nval g n = A at *
  unfold shrRes
  by_cases h1 : k < 0
  · rw [if_pos h1]
    refine acall_rule env [0, 1, 4, 5, 6, 7, 9, 16, 29, 38] Try.func38 rfl rfl rfl rfl ?_
    conv => whnf
    refine splT (by simp only [decide_eq_true_eq, decide_eq_false_iff_not, Bool.not_eq_true', Bool.not_eq_false', gt_iff_lt, ge_iff_le] <;> omega) ?_
    conv => whnf
    refine ⟨(by (try simp only [true_and, and_true, Nat.sub_zero, Nat.zero_add, Int.toNat_natCast]) <;> omega), ?_⟩
    exact .tup ⟨.nil_nat, .refl _, trivial⟩
  rw [if_neg h1]
  obtain ⟨K, rfl⟩ : ∃ K : Nat, k = K := ⟨k.toNat, by omega⟩
  rw [Int.toNat_natCast]
  have hp : A / 2 ^ K = A / pw (K / 32) / 2 ^ (K % 32) := by
    rw [pw_two, Nat.div_div_eq_div_mul, ← Nat.pow_add, Nat.add_comm, Nat.mod_add_div]
  obtain ⟨D, hD⟩ : ∃ D, K / 32 = D := ⟨_, rfl⟩
  obtain ⟨r, hr⟩ : ∃ r, K % 32 = r := ⟨_, rfl⟩
  have hr32 : r < 32 := by omega
  rw [hD, hr] at hp
  rw [hp]
  by_cases h0 : size A ≤ D
  · have : A / pw D = 0 := Nat.div_eq_of_lt (Nat.lt_of_lt_of_le (lt_pw_size A) (pw_le h0))
    rw [this, Nat.zero_div]
    refine acall_rule env [0, 1, 4, 5, 6, 7, 9, 16, 29, 38] Try.func38 rfl rfl rfl rfl ?_
    conv => whnf
    first | refine callF v ⟨.refl _, trivial⟩ (by trivial) rfl ?_ | ((repeat (refine ⟨by kernel_rfl, ?_⟩; (conv => whnf))); refine callF v ⟨.refl _, trivial⟩ (by trivial) rfl ?_)
    conv => whnf
    refine ⟨(by (try simp only [true_and, and_true, Nat.sub_zero, Nat.zero_add, Int.toNat_natCast]) <;> omega), ?_⟩
    conv => whnf
    refine quoi64 (b := 32) (by omega) ?_
    conv => whnf
    rw [hD]
    conv => whnf
    refine splT (by simp only [decide_eq_true_eq, decide_eq_false_iff_not, Bool.not_eq_true', Bool.not_eq_false', gt_iff_lt, ge_iff_le] <;> omega) ?_
    conv => whnf
    refine ⟨(by (try simp only [true_and, and_true, Nat.sub_zero, Nat.zero_add, Int.toNat_natCast]) <;> omega), ?_⟩
    exact .tup ⟨.nil_nat, .refl _, trivial⟩
  have hsz := size_down (N := A) (D := D) (by omega)
  have hdig : ∀ j, digit A (D + j) = digit (A / pw D) j := fun j => by rw [digit_down, Nat.add_comm]
  obtain ⟨B, hB⟩ : ∃ B, A / pw D = B := ⟨_, rfl⟩
  rw [hB] at hsz hdig ⊢
  have hX : ∀ i, B / 2 ^ r / 2 ^ i = B / 2 ^ (i + r) := fun i => by rw [Nat.div_div_eq_div_mul, ← Nat.pow_add, Nat.add_comm]
  obtain ⟨X, hXe⟩ : ∃ X, B / 2 ^ r = X := ⟨_, rfl⟩
  rw [hXe] at hX ⊢
  have hXL : X < 2 ^ (32 * (size A - D)) := by
    rw [← pw_two, ← hXe, ← hsz]
    exact Nat.lt_of_le_of_lt (Nat.div_le_self _ _) (lt_pw_size B)
  have bt := fun i (hi : i < 4611686018427387904) => refbit_ok (digit B) (size A - D) i (digit_Dig _ _) hi
  rw [show nval (digit B) (size A - D) = B by rw [← hsz, nval_digit_size]] at bt
  have t1 := refTrim_ok (digit X) (size A - D) (digit_Dig _ _) (by omega)
  rw [nval_digit, Nat.mod_eq_of_lt (by rw [pw_two]; exact hXL)] at t1
  refine acall_rule env [0, 1, 4, 5, 6, 7, 9, 16, 29, 38] Try.func38 rfl rfl rfl rfl ?_
  conv => whnf
  first | refine callF v ⟨.refl _, trivial⟩ (by trivial) rfl ?_ | ((repeat (refine ⟨by kernel_rfl, ?_⟩; (conv => whnf))); refine callF v ⟨.refl _, trivial⟩ (by trivial) rfl ?_)
  conv => whnf
  refine ⟨(by (try simp only [true_and, and_true, Nat.sub_zero, Nat.zero_add, Int.toNat_natCast]) <;> omega), ?_⟩
  conv => whnf
  refine quoi64 (b := 32) (by omega) ?_
  conv => whnf
  rw [hD]
  conv => whnf
  refine splF (by simp only [decide_eq_true_eq, decide_eq_false_iff_not, Bool.not_eq_true', Bool.not_eq_false', gt_iff_lt, ge_iff_le] <;> omega) ?_
  conv => whnf
  refine ⟨(by (try simp only [true_and, and_true, Nat.sub_zero, Nat.zero_add, Int.toNat_natCast]) <;> omega), ?_⟩
  conv => whnf
  refine quoi64 (b := 32) (by omega) ?_
  conv => whnf
  rw [hD]
  conv => whnf
  refine ⟨(by (try simp only [true_and, and_true, Nat.sub_zero, Nat.zero_add, Int.toNat_natCast]) <;> omega), ?_⟩
  conv => whnf
  refine ⟨(by (try simp only [true_and, and_true, Nat.sub_zero, Nat.zero_add, Int.toNat_natCast]) <;> omega), ?_⟩
  conv => whnf
  refine loop_ruleF [0, 1, 6, 7] [24] (fun i : Nat => ([(0, raw (digit B) (size A - D)), (1, .f (.int .i64 K)), (6, .lsl 24 1 1 0 (size A - D) (some (size A - D))), (7, .f (.int .i64 i))], [(24, 1, .fa 1 (size A - D) (fun j => [.int .u32 (digit (X % 2 ^ i) j : Nat)]))])) (fun i => i ≤ 32 * (size A - D)) (fun i => 32 * (size A - D) - i) 0
    ⟨_, _, rfl, ⟨rfl, .f ?_, rfl, .refl _, rfl, ?_, rfl, .refl _, trivial⟩, ⟨⟨rfl, rfl⟩, .fa fun j hj => ?_, trivial⟩⟩ (Nat.zero_le _) ?_
  · refine .sl (fun j hj => ?_) (.inl rfl)
    simp only [Int.toNat_natCast, hdig]
    exact .one (.refl _)
  · exact .refl _
  · rw [Nat.pow_zero, Nat.mod_one, show digit 0 j = 0 by simp [digit]]
    exact .one (.refl _)
  intro i hi
  have hb1 := bt (i + r) (by omega)
  rw [← hX] at hb1
  have hms := Nat.mod_pow_succ (b := 2) (k := i) (x := X)
  obtain ⟨b, hb⟩ : ∃ b, X / 2 ^ i % 2 = b := ⟨_, rfl⟩
  have hb2 : b < 2 := by rw [← hb]; exact Nat.mod_lt _ (by decide)
  rw [hb] at hb1 hms
  conv => whnf
  refine sumi64 (32 * (size A - D)) (by omega) (by omega) ?_
  conv => whnf
  refine spl (fun h3 => ?_) (fun h3 => ?_) <;> simp only [decide_eq_true_eq, decide_eq_false_iff_not, Bool.not_eq_true', Bool.not_eq_false', gt_iff_lt, ge_iff_le] at h3
  · conv => whnf
    refine ⟨(by (try simp only [true_and, and_true, Nat.sub_zero, Nat.zero_add, Int.toNat_natCast]) <;> omega), ?_⟩
    conv => whnf
    refine remN (b := 32) ?_
    conv => whnf
    rw [hr]
    conv => whnf
    refine sumi64 (i + r) (by omega) (by omega) ?_
    conv => whnf
    refine callF hb1 ⟨.refl _, .refl _, trivial⟩ (by trivial) rfl ?_
    conv => whnf
    have hd := digit_lt (X % 2 ^ i) (i / 32)
    have hp2 : 2 ^ (i % 32) < 4294967296 := Nat.pow_lt_pow_right (show 1 < 2 by decide) (show i % 32 < 32 by omega)
    have pb := put_bit (M := X % 2 ^ i) (i := i) (Nat.mod_lt _ (Nat.two_pow_pos _))
    refine spl (fun h4 => ?_) (fun h4 => ?_) <;> simp only [decide_eq_true_eq, decide_eq_false_iff_not, Bool.not_eq_true', Bool.not_eq_false', gt_iff_lt, ge_iff_le] at h4
    · have hb1' : b = 1 := by omega
      rw [hb1', Nat.mul_one] at hms
      conv => whnf
      refine ⟨(by (try simp only [true_and, and_true, Nat.sub_zero, Nat.zero_add, Int.toNat_natCast]) <;> omega), ?_⟩
      conv => whnf
      refine quoi64 (b := 32) (by omega) ?_
      conv => whnf
      refine ⟨(by (try simp only [true_and, and_true, Nat.sub_zero, Nat.zero_add, Int.toNat_natCast]) <;> omega), ?_⟩
      conv => whnf
      refine ⟨(by (try simp only [true_and, and_true, Nat.sub_zero, Nat.zero_add, Int.toNat_natCast]) <;> omega), ?_⟩
      conv => whnf
      refine ⟨(by (try simp only [true_and, and_true, Nat.sub_zero, Nat.zero_add, Int.toNat_natCast]) <;> omega), ?_⟩
      conv => whnf
      refine remN (b := 32) ?_
      conv => whnf
      refine sumu64 (i % 32) rfl (by omega) ?_
      conv => whnf
      refine ⟨(by (try simp only [true_and, and_true, Nat.sub_zero, Nat.zero_add, Int.toNat_natCast]) <;> omega), ?_⟩
      conv => whnf
      rw [show 0 + Int.toNat ((i / 32 : Nat) : Int) = i / 32 by omega]
      refine shlN32 (a := 1) (n := i % 32) (2 ^ (i % 32)) rfl (by omega) (by rw [Nat.one_mul, Nat.mod_eq_of_lt hp2]) ?_
      conv => whnf
      refine orN (a := digit (X % 2 ^ i) (i / 32)) (digit (X % 2 ^ i) (i / 32) ||| 2 ^ (i % 32)) rfl (show _ < 4294967296 from hd) (show _ < 4294967296 from hp2) rfl ?_
      conv => whnf
      refine ⟨(by (try simp only [true_and, and_true, Nat.sub_zero, Nat.zero_add, Int.toNat_natCast]) <;> omega), ?_⟩
      conv => whnf
      refine ⟨(by (try simp only [true_and, and_true, Nat.sub_zero, Nat.zero_add, Int.toNat_natCast]) <;> omega), ?_⟩
      conv => whnf
      refine sumi64 (i + 1) (by omega) (by omega) ?_
      conv => whnf
      refine ⟨i + 1, _, _, rfl, ⟨rfl, .refl _, rfl, .refl _, rfl, .refl _, rfl, .refl _, trivial⟩, ⟨⟨rfl, rfl⟩, .fa fun k hk => ?_, trivial⟩, by omega, by omega⟩
      rw [hms, upd_set (fun k => digit (X % 2 ^ i) k) _ _ _ rfl, pb k]
      refine .one (.int_of ?_)
      simp only [Nat.zero_add, Int.toNat_natCast]
      split
      · rename_i h; rw [h]
      · rfl
    · have hb1' : b = 0 := by omega
      rw [hb1', Nat.mul_zero, Nat.add_zero] at hms
      conv => whnf
      refine sumi64 (i + 1) (by omega) (by omega) ?_
      conv => whnf
      refine ⟨i + 1, _, _, rfl, ⟨rfl, .refl _, rfl, .refl _, rfl, .refl _, rfl, .refl _, trivial⟩, ⟨⟨rfl, rfl⟩, .fa fun k hk => ?_, trivial⟩, by omega, by omega⟩
      rw [hms]
      exact .one (.refl _)
  · have : i = 32 * (size A - D) := by omega
    subst this
    rw [Nat.mod_eq_of_lt hXL]
    conv => whnf
    refine callF t1 ⟨.raw_of (fun k hk => by simp only [Nat.zero_add]), trivial⟩ (by (try simp only [true_and, and_true, Nat.sub_zero, Nat.zero_add, Int.toNat_natCast]) <;> omega) rfl ?_
    conv => whnf
    (repeat (refine ⟨by kernel_rfl, ?_⟩; (conv => whnf)))
    refine ⟨(by (try simp only [true_and, and_true, Nat.sub_zero, Nat.zero_add, Int.toNat_natCast]) <;> omega), ?_⟩
    exact .refl _
end Go.Abs

/- The laws of shifts. -/
set_option autoImplicit false
set_option maxHeartbeats 4000000
set_option maxRecDepth 10000
set_option linter.unusedVariables false
set_option linter.unusedSimpArgs false
namespace Go.Abs
open Go Go.Proofs

theorem two_pow_le_pw {k j : Nat} (h : k ≤ 32 * j) : 2 ^ k ≤ pw j := by rw [pw_two]; exact Nat.pow_le_pow_right (by decide) h
theorem size_mul_two {A n k : Nat} (hA : size A ≤ n) (hk : k ≤ 65536) : size (A * 2 ^ k) ≤ n + 2049 := by
  apply size_le
  rw [pw_add]
  have h1 : A < pw n := Nat.lt_of_lt_of_le (lt_pw_size A) (pw_le hA)
  have h2 : 2 ^ k ≤ pw 2049 := two_pow_le_pw (by omega)
  exact Nat.lt_of_lt_of_le ((Nat.mul_lt_mul_right (Nat.two_pow_pos _)).2 h1) (Nat.mul_le_mul_left _ h2)
theorem shl_form (A : Nat) (k : Int) {n : Nat} (hA : size A ≤ n) : ∃ M b, shlRes A k = .tup [nat M, .f (.bool b)] ∧ size M ≤ n + 2049 := by
  unfold shlRes
  split
  · exact ⟨_, _, rfl, by rw [show size 0 = 0 from rfl]; omega⟩
  · exact ⟨_, _, rfl, size_mul_two hA (by omega)⟩
theorem shr_form (A : Nat) (k : Int) {n : Nat} (hA : size A ≤ n) : ∃ M b, shrRes A k = .tup [nat M, .f (.bool b)] ∧ size M ≤ n := by
  unfold shrRes
  split
  · exact ⟨_, _, rfl, by rw [show size 0 = 0 from rfl]; omega⟩
  · exact ⟨_, _, rfl, Nat.le_trans (size_mono (Nat.div_le_self _ _)) hA⟩

theorem NaturalShifts_ok (g : Nat → Nat) (n : Nat) (k : Int) (u : Nat) (hg : Dig g n) (hn : n ≤ 1099511627776) (hk : -9223372036854775808 ≤ k ∧ k ≤ 9223372036854775807) (hu : u < 256) :
    ACall Try.prog 11 [raw g n, .f (.int .i64 k), .f (.int .u8 u)] (.f (.bool true)) := by
  have hA := size_nval hg
  have rnd : ∀ k : Int, -9223372036854775808 ≤ k ∧ k ≤ 9223372036854775807 → ∃ M b N c, ACall Try.prog 35 [raw g n, .f (.int .i64 k)] (.tup [nat M, .f (.bool b)]) ∧ ACall Try.prog 36 [raw g n, .f (.int .i64 k)] (.tup [nat M, .f (.bool b)]) ∧
      ACall Try.prog 37 [raw g n, .f (.int .i64 k)] (.tup [nat N, .f (.bool c)]) ∧ ACall Try.prog 38 [raw g n, .f (.int .i64 k)] (.tup [nat N, .f (.bool c)]) ∧
      ACall Try.prog 18 [nat M, nat M] (.f (.bool true)) ∧ ACall Try.prog 18 [nat N, nat N] (.f (.bool true)) := by
    intro k hk
    have l1 := ShiftLeft_ok g n k hg (by omega) hk
    have l2 := refShiftLeft_ok g n k hg (by omega) hk
    have r1 := ShiftRight_ok g n k hg (by omega) hk
    have r2 := refShiftRight_ok g n k hg (by omega) hk
    obtain ⟨M, b, h1, h2⟩ := shl_form (nval g n) k hA
    obtain ⟨N, c, h3, h4⟩ := shr_form (nval g n) k hA
    rw [h1] at l1 l2
    rw [h3] at r1 r2
    have e1 := refEqual_nn M M (by omega)
    have e2 := refEqual_nn N N (by omega)
    rw [decide_eq_true rfl] at e1 e2
    exact ⟨M, b, N, c, l1, l2, r1, r2, e1, e2⟩
  have b1 := Bits_ok g n hg (by omega)
  have b2 := refBits_ok g n hg (by omega)
  refine acall_rule env [0, 1, 2, 6, 8, 9, 10, 11, 12, 13, 14, 15, 16, 20, 21, 22, 23, 69] Try.func11 rfl rfl rfl rfl ?_
  conv => whnf
  refine sumi64 u (by omega) (by omega) ?_
  conv => whnf
  refine loop_mod [0, 20, 21, 22] [20] [0] []
    (fun μ fr hp => ∃ i : Nat, i ≤ 2 ∧ fr = [(0, raw g n), (20, .lsl 20 1 1 0 2 (some 2)), (21, .f (.int .i64 2)), (22, .f (.int .i64 i))] ∧ hp = [(20, 1, .vr [.f (.int .i64 k), .f (.int .i64 u)])] ∧ μ = 2 - i)
    (fun e fr hp => e = .exit 0 ∧ fr = [(0, raw g n)] ∧ hp = [])
    ⟨_, _, _, _, rfl, .refl _, 0, by omega, rfl, rfl, rfl⟩ ?_ ?_
  · rintro _ _ _ ⟨rfl, rfl, rfl⟩
    conv => whnf
    first | refine callF awake_ok trivial (by trivial) rfl ?_ | ((repeat (refine ⟨by kernel_rfl, ?_⟩; (conv => whnf))); refine callF awake_ok trivial (by trivial) rfl ?_)
    conv => whnf
    first | refine callF b1 ⟨.refl _, trivial⟩ (by trivial) rfl ?_ | ((repeat (refine ⟨by kernel_rfl, ?_⟩; (conv => whnf))); refine callF b1 ⟨.refl _, trivial⟩ (by trivial) rfl ?_)
    conv => whnf
    first | refine callF b2 ⟨.refl _, trivial⟩ (by trivial) rfl ?_ | ((repeat (refine ⟨by kernel_rfl, ?_⟩; (conv => whnf))); refine callF b2 ⟨.refl _, trivial⟩ (by trivial) rfl ?_)
    conv => whnf
    (repeat (refine ⟨by kernel_rfl, ?_⟩; (conv => whnf)))
    refine ⟨(by (try simp only [true_and, and_true, Nat.sub_zero, Nat.zero_add, Int.toNat_natCast]) <;> omega), ?_⟩
    exact .bool_of (decide_eq_true rfl)
  rintro _ _ _ ⟨i, hi, rfl, rfl, rfl⟩
  match i, hi with
  | 0, _ =>
    obtain ⟨M, b, N, c, l1, l2, r1, r2, e1, e2⟩ := rnd k hk
    conv => whnf
    refine ⟨(by (try simp only [true_and, and_true, Nat.sub_zero, Nat.zero_add, Int.toNat_natCast]) <;> omega), ?_⟩
    conv => whnf
    first | refine callF l1 ⟨.refl _, .refl _, trivial⟩ (by trivial) rfl ?_ | ((repeat (refine ⟨by kernel_rfl, ?_⟩; (conv => whnf))); refine callF l1 ⟨.refl _, .refl _, trivial⟩ (by trivial) rfl ?_)
    conv => whnf
    first | refine callF l2 ⟨.refl _, .refl _, trivial⟩ (by trivial) rfl ?_ | ((repeat (refine ⟨by kernel_rfl, ?_⟩; (conv => whnf))); refine callF l2 ⟨.refl _, .refl _, trivial⟩ (by trivial) rfl ?_)
    conv => whnf
    first | refine callF r1 ⟨.refl _, .refl _, trivial⟩ (by trivial) rfl ?_ | ((repeat (refine ⟨by kernel_rfl, ?_⟩; (conv => whnf))); refine callF r1 ⟨.refl _, .refl _, trivial⟩ (by trivial) rfl ?_)
    conv => whnf
    first | refine callF r2 ⟨.refl _, .refl _, trivial⟩ (by trivial) rfl ?_ | ((repeat (refine ⟨by kernel_rfl, ?_⟩; (conv => whnf))); refine callF r2 ⟨.refl _, .refl _, trivial⟩ (by trivial) rfl ?_)
    conv => whnf
    first | refine callF e1 ⟨.refl _, .refl _, trivial⟩ (by trivial) rfl ?_ | ((repeat (refine ⟨by kernel_rfl, ?_⟩; (conv => whnf))); refine callF e1 ⟨.refl _, .refl _, trivial⟩ (by trivial) rfl ?_)
    conv => whnf
    cases b <;> cases c
    · conv => whnf
      first | refine callF e2 ⟨.refl _, .refl _, trivial⟩ (by trivial) rfl ?_ | ((repeat (refine ⟨by kernel_rfl, ?_⟩; (conv => whnf))); refine callF e2 ⟨.refl _, .refl _, trivial⟩ (by trivial) rfl ?_)
      conv => whnf
      refine sumi64 1 (by omega) (by omega) ?_
      conv => whnf
      exact ⟨_, by omega, _, _, _, rfl, .refl _, 1, by omega, rfl, rfl, rfl⟩
    · conv => whnf
      first | refine callF e2 ⟨.refl _, .refl _, trivial⟩ (by trivial) rfl ?_ | ((repeat (refine ⟨by kernel_rfl, ?_⟩; (conv => whnf))); refine callF e2 ⟨.refl _, .refl _, trivial⟩ (by trivial) rfl ?_)
      conv => whnf
      refine sumi64 1 (by omega) (by omega) ?_
      conv => whnf
      exact ⟨_, by omega, _, _, _, rfl, .refl _, 1, by omega, rfl, rfl, rfl⟩
    · conv => whnf
      first | refine callF e2 ⟨.refl _, .refl _, trivial⟩ (by trivial) rfl ?_ | ((repeat (refine ⟨by kernel_rfl, ?_⟩; (conv => whnf))); refine callF e2 ⟨.refl _, .refl _, trivial⟩ (by trivial) rfl ?_)
      conv => whnf
      refine sumi64 1 (by omega) (by omega) ?_
      conv => whnf
      exact ⟨_, by omega, _, _, _, rfl, .refl _, 1, by omega, rfl, rfl, rfl⟩
    · conv => whnf
      first | refine callF e2 ⟨.refl _, .refl _, trivial⟩ (by trivial) rfl ?_ | ((repeat (refine ⟨by kernel_rfl, ?_⟩; (conv => whnf))); refine callF e2 ⟨.refl _, .refl _, trivial⟩ (by trivial) rfl ?_)
      conv => whnf
      refine sumi64 1 (by omega) (by omega) ?_
      conv => whnf
      exact ⟨_, by omega, _, _, _, rfl, .refl _, 1, by omega, rfl, rfl, rfl⟩
  | 1, _ =>
    obtain ⟨M, b, N, c, l1, l2, r1, r2, e1, e2⟩ := rnd u (by omega)
    conv => whnf
    refine ⟨(by (try simp only [true_and, and_true, Nat.sub_zero, Nat.zero_add, Int.toNat_natCast]) <;> omega), ?_⟩
    conv => whnf
    first | refine callF l1 ⟨.refl _, .refl _, trivial⟩ (by trivial) rfl ?_ | ((repeat (refine ⟨by kernel_rfl, ?_⟩; (conv => whnf))); refine callF l1 ⟨.refl _, .refl _, trivial⟩ (by trivial) rfl ?_)
    conv => whnf
    first | refine callF l2 ⟨.refl _, .refl _, trivial⟩ (by trivial) rfl ?_ | ((repeat (refine ⟨by kernel_rfl, ?_⟩; (conv => whnf))); refine callF l2 ⟨.refl _, .refl _, trivial⟩ (by trivial) rfl ?_)
    conv => whnf
    first | refine callF r1 ⟨.refl _, .refl _, trivial⟩ (by trivial) rfl ?_ | ((repeat (refine ⟨by kernel_rfl, ?_⟩; (conv => whnf))); refine callF r1 ⟨.refl _, .refl _, trivial⟩ (by trivial) rfl ?_)
    conv => whnf
    first | refine callF r2 ⟨.refl _, .refl _, trivial⟩ (by trivial) rfl ?_ | ((repeat (refine ⟨by kernel_rfl, ?_⟩; (conv => whnf))); refine callF r2 ⟨.refl _, .refl _, trivial⟩ (by trivial) rfl ?_)
    conv => whnf
    first | refine callF e1 ⟨.refl _, .refl _, trivial⟩ (by trivial) rfl ?_ | ((repeat (refine ⟨by kernel_rfl, ?_⟩; (conv => whnf))); refine callF e1 ⟨.refl _, .refl _, trivial⟩ (by trivial) rfl ?_)
    conv => whnf
    cases b <;> cases c
    · conv => whnf
      first | refine callF e2 ⟨.refl _, .refl _, trivial⟩ (by trivial) rfl ?_ | ((repeat (refine ⟨by kernel_rfl, ?_⟩; (conv => whnf))); refine callF e2 ⟨.refl _, .refl _, trivial⟩ (by trivial) rfl ?_)
      conv => whnf
      refine sumi64 2 (by omega) (by omega) ?_
      conv => whnf
      exact ⟨_, by omega, _, _, _, rfl, .refl _, 2, by omega, rfl, rfl, rfl⟩
    · conv => whnf
      first | refine callF e2 ⟨.refl _, .refl _, trivial⟩ (by trivial) rfl ?_ | ((repeat (refine ⟨by kernel_rfl, ?_⟩; (conv => whnf))); refine callF e2 ⟨.refl _, .refl _, trivial⟩ (by trivial) rfl ?_)
      conv => whnf
      refine sumi64 2 (by omega) (by omega) ?_
      conv => whnf
      exact ⟨_, by omega, _, _, _, rfl, .refl _, 2, by omega, rfl, rfl, rfl⟩
    · conv => whnf
      first | refine callF e2 ⟨.refl _, .refl _, trivial⟩ (by trivial) rfl ?_ | ((repeat (refine ⟨by kernel_rfl, ?_⟩; (conv => whnf))); refine callF e2 ⟨.refl _, .refl _, trivial⟩ (by trivial) rfl ?_)
      conv => whnf
      refine sumi64 2 (by omega) (by omega) ?_
      conv => whnf
      exact ⟨_, by omega, _, _, _, rfl, .refl _, 2, by omega, rfl, rfl, rfl⟩
    · conv => whnf
      first | refine callF e2 ⟨.refl _, .refl _, trivial⟩ (by trivial) rfl ?_ | ((repeat (refine ⟨by kernel_rfl, ?_⟩; (conv => whnf))); refine callF e2 ⟨.refl _, .refl _, trivial⟩ (by trivial) rfl ?_)
      conv => whnf
      refine sumi64 2 (by omega) (by omega) ?_
      conv => whnf
      exact ⟨_, by omega, _, _, _, rfl, .refl _, 2, by omega, rfl, rfl, rfl⟩
  | 2, _ =>
    conv => whnf
    exact ⟨_, _, _, rfl, .refl _, rfl, rfl, rfl⟩

theorem NaturalScaling_ok (g : Nat → Nat) (n : Nat) (u : Nat) (hg : Dig g n) (hn : n ≤ 1099511627776) (hu : u < 256) :
    ACall Try.prog 13 [raw g n, .f (.int .u8 u)] (.f (.bool true)) := by
  have hA := size_nval hg
  have l1 := ShiftLeft_ok (lim [1]) 1 u (by unfold Dig; decide) (by omega) (by omega)
  have l2 := ShiftLeft_ok g n u hg (by omega) (by omega)
  rw [show nval (lim [1]) 1 = 1 by decide] at l1
  obtain ⟨A, hAe⟩ : ∃ A, nval g n = A := ⟨_, rfl⟩
  have t1 := refTrim_ok g n hg (by omega)
  rw [hAe] at l2 hA t1
  have sM := size_mul_two (A := A) hA (show u ≤ 65536 by omega)
  have sP := size_mul_two (A := 1) (n := 1) (by decide) (show u ≤ 65536 by omega)
  have r1 := ShiftRight_ok (digit (A * 2 ^ u)) (size (A * 2 ^ u)) u (digit_Dig _ _) (by omega) (by omega)
  rw [nval_digit_size] at r1
  unfold shlRes at l1 l2
  unfold shrRes at r1
  rw [if_neg (by omega), Int.toNat_natCast, Nat.one_mul] at l1
  rw [if_neg (by omega), Int.toNat_natCast] at l2
  rw [if_neg (by omega), Int.toNat_natCast, Nat.mul_div_cancel _ (Nat.two_pow_pos _)] at r1
  rw [Nat.one_mul] at sP
  have b1 := Bits_ok (digit (2 ^ u)) (size (2 ^ u)) (digit_Dig _ _) (by omega)
  rw [nval_digit_size, bitlen_eq (k := u) (Nat.le_refl _) (by rw [Nat.pow_succ]; have := Nat.two_pow_pos u; omega)] at b1
  have m1 := Mul_rn (2 ^ u) g n hg (by omega)
  rw [hAe] at m1
  have e1 := refEqual_nn (A * 2 ^ u) (A * 2 ^ u) (by omega)
  have e2 := refEqual_nn A A (by omega)
  rw [decide_eq_true rfl] at e1 e2
  refine acall_rule env [0, 1, 4, 5, 6, 7, 8, 9, 10, 11] Try.func13 rfl rfl rfl rfl ?_
  conv => whnf
  refine sumi64 u (by omega) (by omega) ?_
  conv => whnf
  refine callF l1 ⟨.raw_of fun j hj => match j, hj with | 0, _ => rfl, .refl _, trivial⟩ (by simp) rfl ?_
  conv => whnf
  first | refine callF l2 ⟨.refl _, .refl _, trivial⟩ (by trivial) rfl ?_ | ((repeat (refine ⟨by kernel_rfl, ?_⟩; (conv => whnf))); refine callF l2 ⟨.refl _, .refl _, trivial⟩ (by trivial) rfl ?_)
  conv => whnf
  first | refine callF r1 ⟨.refl _, .refl _, trivial⟩ (by trivial) rfl ?_ | ((repeat (refine ⟨by kernel_rfl, ?_⟩; (conv => whnf))); refine callF r1 ⟨.refl _, .refl _, trivial⟩ (by trivial) rfl ?_)
  conv => whnf
  first | refine callF awake_ok trivial (by trivial) rfl ?_ | ((repeat (refine ⟨by kernel_rfl, ?_⟩; (conv => whnf))); refine callF awake_ok trivial (by trivial) rfl ?_)
  conv => whnf
  first | refine callF b1 ⟨.refl _, trivial⟩ (by trivial) rfl ?_ | ((repeat (refine ⟨by kernel_rfl, ?_⟩; (conv => whnf))); refine callF b1 ⟨.refl _, trivial⟩ (by trivial) rfl ?_)
  conv => whnf
  refine sumi64 (u + 1) (by omega) (by omega) ?_
  conv => whnf
  refine splT (by simp only [decide_eq_true_eq, decide_eq_false_iff_not, Bool.not_eq_true', Bool.not_eq_false', gt_iff_lt, ge_iff_le] <;> omega) ?_
  conv => whnf
  first | refine callF m1 ⟨.refl _, .refl _, trivial⟩ (by trivial) rfl ?_ | ((repeat (refine ⟨by kernel_rfl, ?_⟩; (conv => whnf))); refine callF m1 ⟨.refl _, .refl _, trivial⟩ (by trivial) rfl ?_)
  conv => whnf
  first | refine callF e1 ⟨.refl _, .refl _, trivial⟩ (by trivial) rfl ?_ | ((repeat (refine ⟨by kernel_rfl, ?_⟩; (conv => whnf))); refine callF e1 ⟨.refl _, .refl _, trivial⟩ (by trivial) rfl ?_)
  conv => whnf
  first | refine callF t1 ⟨.refl _, trivial⟩ (by trivial) rfl ?_ | ((repeat (refine ⟨by kernel_rfl, ?_⟩; (conv => whnf))); refine callF t1 ⟨.refl _, trivial⟩ (by trivial) rfl ?_)
  conv => whnf
  first | refine callF e2 ⟨.refl _, .refl _, trivial⟩ (by trivial) rfl ?_ | ((repeat (refine ⟨by kernel_rfl, ?_⟩; (conv => whnf))); refine callF e2 ⟨.refl _, .refl _, trivial⟩ (by trivial) rfl ?_)
  conv => whnf
  (repeat (refine ⟨by kernel_rfl, ?_⟩; (conv => whnf)))
  refine ⟨(by (try simp only [true_and, and_true, Nat.sub_zero, Nat.zero_add, Int.toNat_natCast]) <;> omega), ?_⟩
  exact .refl _
end Go.Abs
