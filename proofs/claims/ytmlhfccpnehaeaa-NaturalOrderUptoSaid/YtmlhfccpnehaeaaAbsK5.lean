/- Natural numbers: Mul. -/
import Derived.Test.YtmlhfccpnehaeaaAbsK1
set_option autoImplicit false
set_option maxHeartbeats 4000000
set_option linter.unusedVariables false
set_option linter.unusedSimpArgs false
namespace Go.Abs
open Go Go.Proofs

theorem nval_setg (h : Nat → Nat) (i x : Nat) : ∀ n, i < n → nval (fun j => if j = i then x else h j) n + h i * pw i = nval h n + x * pw i
  | 0, hi => by omega
  | n + 1, hi => by
    rw [nval_succ, nval_succ]
    by_cases e : i = n
    · subst e
      rw [if_pos rfl, nval_congr (g := fun j => if j = i then x else h j) (h := h) fun j hj => if_neg (by omega)]
      omega
    · rw [if_neg (by omega)]
      have := nval_setg h i x n (by omega)
      omega
theorem mul_inner {h : Nat → Nat} {B c i k N V x s : Nat} (hk : i + k < N) (e : nval h N + c * pw (i + k) = V + x * (B % pw k) * pw i) (hs : x * digit B k + h (i + k) + c = s) :
    nval (fun j => if j = i + k then s % 4294967296 else h j) N + s / 4294967296 * pw (i + (k + 1)) = V + x * (B % pw (k + 1)) * pw i := by
  have h1 := nval_setg h (i + k) (s % 4294967296) N hk
  rw [mod_step, show i + (k + 1) = i + k + 1 by omega, pw_succ]
  rw [pw_add] at *
  have := Nat.div_add_mod s 4294967296
  generalize s / 4294967296 = q at *
  generalize s % 4294967296 = r at *
  grind
theorem mul_bound {x y z w : Nat} (hx : x < 4294967296) (hy : y < 4294967296) (hz : z < 4294967296) (hw : w < 4294967296) : x * y + z + w < 18446744073709551616 := by
  have := Nat.mul_le_mul (show x ≤ 4294967295 by omega) (show y ≤ 4294967295 by omega); omega
theorem mul_bound2 {x y : Nat} (hx : x < 4294967296) (hy : y < 4294967296) : x * y < 18446744073709551616 := by
  have := Nat.mul_le_mul (show x ≤ 4294967295 by omega) (show y ≤ 4294967295 by omega); omega
theorem mul_zero_at {h : Nat → Nat} {A B i N : Nat} (hd : Dig h N) (e : nval h N = A % pw i * B) (hi : i + size B < N) : h (i + size B) = 0 := by
  have h1 := digit_nval hd (i + size B)
  rw [if_pos hi, e] at h1
  rw [← h1]
  apply digit_zero_of_size
  apply size_le
  rw [pw_add]
  have h2 : A % pw i < pw i := Nat.mod_lt _ (pw_pos i)
  have h3 := lt_pw_size B
  exact Nat.lt_of_le_of_lt (Nat.mul_le_mul_left _ (Nat.le_of_lt h3)) (Nat.mul_lt_mul_of_pos_right h2 (pw_pos _))
theorem mul_outer {h : Nat → Nat} {A B c i N : Nat} (hi : i + size B < N) (hz : h (i + size B) = 0) (e : nval h N + c * pw (i + size B) = A % pw i * B + digit A i * (B % pw (size B)) * pw i) :
    nval (fun j => if j = i + size B then c else h j) N = A % pw (i + 1) * B := by
  have h1 := nval_setg h (i + size B) c N hi
  rw [mod_step]
  rw [mod_size (Nat.le_refl _)] at e
  rw [hz] at h1
  grind

theorem Mul_ok (g h : Nat → Nat) (n m : Nat) (hg : Dig g n) (hh : Dig h m) (hn : n + m ≤ 4398046511104) :
    ACall Try.prog 30 [raw g n, raw h m] (nat (nval g n * nval h m)) := by
  have hA := size_nval hg
  have hB := size_nval hh
  have va := view_ok g n hg (by omega)
  have vb := view_ok h m hh (by omega)
  generalize nval g n = A at hA va ⊢
  generalize nval h m = B at hB vb ⊢
  refine acall_rule env [0, 1, 4, 5, 6, 7, 8, 9, 10, 11, 23, 30, 31, 32, 33, 37, 38, 39, 40] Try.func30 rfl rfl rfl rfl ?_
  conv => whnf
  refine callF va ⟨.refl _, trivial⟩ (by trivial) rfl ?_
  conv => whnf
  refine callF vb ⟨.refl _, trivial⟩ (by trivial) rfl ?_
  conv => whnf
  refine spl (fun h1 => ?_) (fun h1 => ?_) <;> simp only [decide_eq_true_eq, decide_eq_false_iff_not, Bool.not_eq_true', Bool.not_eq_false', gt_iff_lt, ge_iff_le] at h1
  · conv => whnf
    refine ⟨(by (try simp only [true_and, and_true, Nat.sub_zero, Nat.zero_add, Int.toNat_natCast]) <;> omega), ?_⟩
    rw [show A = 0 from size_eq_zero.1 (by omega), Nat.zero_mul]
    exact .nil_nat
  conv => whnf
  refine spl (fun h2 => ?_) (fun h2 => ?_) <;> simp only [decide_eq_true_eq, decide_eq_false_iff_not, Bool.not_eq_true', Bool.not_eq_false', gt_iff_lt, ge_iff_le] at h2
  · conv => whnf
    refine ⟨(by (try simp only [true_and, and_true, Nat.sub_zero, Nat.zero_add, Int.toNat_natCast]) <;> omega), ?_⟩
    rw [show B = 0 from size_eq_zero.1 (by omega), Nat.mul_zero]
    exact .nil_nat
  conv => whnf
  refine sumi64 (size A + size B) (by omega) (by omega) ?_
  conv => whnf
  refine ⟨(by (try simp only [true_and, and_true, Nat.sub_zero, Nat.zero_add, Int.toNat_natCast]) <;> omega), ?_⟩
  conv => whnf
  refine loop_mod [1, 5, 30, 31, 32] [29] [5] [29]
    (fun μ fr hp => ∃ (h : Nat → Nat) (i : Nat), fr = [(1, nat B), (5, .lsl 29 1 1 0 (size A + size B) (some (size A + size B))), (30, nat A), (31, .f (.int .i64 (size A : Nat))), (32, .f (.int .i64 i))] ∧ hp = [(29, 1, .fa 1 (size A + size B) (fun j => [.int .u32 (h j : Nat)]))] ∧ μ = size A - i ∧ i ≤ size A ∧ Dig h (size A + size B) ∧ nval h (size A + size B) = A % pw i * B)
    (fun e fr hp => e = .exit 0 ∧ ∃ h : Nat → Nat, fr = [(5, .lsl 29 1 1 0 (size A + size B) (some (size A + size B)))] ∧ hp = [(29, 1, .fa 1 (size A + size B) (fun j => [.int .u32 (h j : Nat)]))] ∧ Dig h (size A + size B) ∧ nval h (size A + size B) = A * B)
    ⟨_, _, _, _, rfl, .refl _, fun _ => 0, 0, rfl, rfl, rfl, Nat.zero_le _, fun j hj => by simp, ?_⟩ ?_ ?_
  · have : ∀ n, nval (fun _ => 0) n = 0 := fun n => by induction n with | zero => rfl | succ n ih => rw [nval_succ, ih, Nat.zero_mul]
    simp [pw_zero, Nat.mod_one, this]
  · rintro _ _ _ ⟨rfl, h, rfl, rfl, g2, g3⟩
    have hv := view_ok _ (size A + size B) g2 (by omega)
    rw [g3] at hv
    conv => whnf
    refine callF hv ⟨.raw_refl, trivial⟩ (by (try simp only [true_and, and_true, Nat.sub_zero, Nat.zero_add, Int.toNat_natCast]) <;> omega) rfl ?_
    conv => whnf
    refine ⟨(by (try simp only [true_and, and_true, Nat.sub_zero, Nat.zero_add, Int.toNat_natCast]) <;> omega), ?_⟩
    exact .refl _
  rintro _ _ _ ⟨h, i, rfl, rfl, rfl, g1, g2, g3⟩
  conv => whnf
  refine spl (fun h3 => ?_) (fun h3 => ?_) <;> simp only [decide_eq_true_eq, decide_eq_false_iff_not, Bool.not_eq_true', Bool.not_eq_false', gt_iff_lt, ge_iff_le] at h3
  · have hx := digit_lt A i
    have hz := mul_zero_at g2 g3 (by omega)
    conv => whnf
    refine ⟨(by (try simp only [true_and, and_true, Nat.sub_zero, Nat.zero_add, Int.toNat_natCast]) <;> omega), ?_⟩
    conv => whnf
    refine loop_mod [1, 5, 6, 7, 8, 30, 31, 32, 37, 38, 39] [29] [1, 5, 6, 8, 30, 31, 32] [29]
      (fun μ fr hp => ∃ (f : Nat → Nat) (c k : Nat), fr = [(1, nat B), (5, .lsl 29 1 1 0 (size A + size B) (some (size A + size B))), (6, .f (.int .i64 i)), (7, .f (.int .u32 (digit A i))), (8, .f (.int .u64 c)), (30, nat A), (31, .f (.int .i64 (size A : Nat))), (32, .f (.int .i64 i)), (37, nat B), (38, .f (.int .i64 (size B : Nat))), (39, .f (.int .i64 k))] ∧ hp = [(29, 1, .fa 1 (size A + size B) (fun j => [.int .u32 (f j : Nat)]))] ∧
        μ = size B - k ∧ k ≤ size B ∧ Dig f (size A + size B) ∧ c < 4294967296 ∧ f (i + size B) = 0 ∧ nval f (size A + size B) + c * pw (i + k) = A % pw i * B + digit A i * (B % pw k) * pw i)
      (fun e fr hp => e = .exit 2 ∧ ∃ (f : Nat → Nat) (c : Nat), fr = [(1, nat B), (5, .lsl 29 1 1 0 (size A + size B) (some (size A + size B))), (6, .f (.int .i64 i)), (8, .f (.int .u64 c)), (30, nat A), (31, .f (.int .i64 (size A : Nat))), (32, .f (.int .i64 i))] ∧ hp = [(29, 1, .fa 1 (size A + size B) (fun j => [.int .u32 (f j : Nat)]))] ∧
        Dig f (size A + size B) ∧ c < 4294967296 ∧ f (i + size B) = 0 ∧ nval f (size A + size B) + c * pw (i + size B) = A % pw i * B + digit A i * (B % pw (size B)) * pw i)
      ⟨_, _, _, _, rfl, .refl _, h, 0, 0, rfl, rfl, rfl, Nat.zero_le _, g2, by simp, hz, by simp [pw_zero, Nat.mod_one, g3]⟩ ?_ ?_
    · rintro _ _ _ ⟨rfl, f, c, rfl, rfl, f2, f3, f4, f5⟩
      have hstep := mul_outer (h := f) (A := A) (c := c) (by omega) f4 f5
      conv => whnf
      refine sumi64 (i + size B) (by omega) (by omega) ?_
      conv => whnf
      refine sumu32 c rfl (by omega) ?_
      conv => whnf
      refine ⟨(by (try simp only [true_and, and_true, Nat.sub_zero, Nat.zero_add, Int.toNat_natCast]) <;> omega), ?_⟩
      conv => whnf
      refine ⟨(by (try simp only [true_and, and_true, Nat.sub_zero, Nat.zero_add, Int.toNat_natCast]) <;> omega), ?_⟩
      conv => whnf
      refine sumi64 (i + 1) (by omega) (by omega) ?_
      conv => whnf
      refine ⟨_, ?_, _, _, _, rfl, ?_, fun j => if j = i + size B then c else f j, i + 1, rfl, rfl, rfl, by omega, Dig_set f2 f3, hstep⟩
      · omega
      · exact ⟨⟨rfl, rfl⟩, .set (by omega) rfl, trivial⟩
    rintro _ _ _ ⟨f, c, k, rfl, rfl, rfl, f1, f2, f3, f4, f5⟩
    conv => whnf
    refine spl (fun h4 => ?_) (fun h4 => ?_) <;> simp only [decide_eq_true_eq, decide_eq_false_iff_not, Bool.not_eq_true', Bool.not_eq_false', gt_iff_lt, ge_iff_le] at h4
    · have hy := digit_lt B k
      have hw := f2 (i + k) (by omega)
      have hb := mul_bound hx hy hw f3
      have hb2 := mul_bound2 hx hy
      conv => whnf
      refine ⟨(by (try simp only [true_and, and_true, Nat.sub_zero, Nat.zero_add, Int.toNat_natCast]) <;> omega), ?_⟩
      conv => whnf
      refine sumu64 (digit A i) rfl (by omega) ?_
      conv => whnf
      refine sumu64 (digit B k) rfl (by omega) ?_
      conv => whnf
      refine sumu64 (digit A i * digit B k) (by rw [Int.natCast_mul]) (by omega) ?_
      conv => whnf
      refine sumi64 (i + k) (by omega) (by omega) ?_
      conv => whnf
      refine ⟨(by (try simp only [true_and, and_true, Nat.sub_zero, Nat.zero_add, Int.toNat_natCast]) <;> omega), ?_⟩
      conv => whnf
      refine ⟨(by (try simp only [true_and, and_true, Nat.sub_zero, Nat.zero_add, Int.toNat_natCast]) <;> omega), ?_⟩
      conv => whnf
      refine sumu64 (f (i + k)) (congrArg (fun t => ((f t : Nat) : Int)) (by omega)) (by omega) ?_
      conv => whnf
      refine sumu64 (digit A i * digit B k + f (i + k)) (by omega) (by omega) ?_
      conv => whnf
      refine sumu64 (digit A i * digit B k + f (i + k) + c) (by omega) (by omega) ?_
      conv => whnf
      have hstep := mul_inner (h := f) (B := B) (c := c) (i := i) (k := k) (N := size A + size B) (x := digit A i) (by omega) f5 rfl
      generalize hs : digit A i * digit B k + f (i + k) + c = s at hstep hb ⊢
      refine sumi64 (i + k) (by omega) (by omega) ?_
      conv => whnf
      refine lowu32 ?_
      conv => whnf
      refine ⟨(by (try simp only [true_and, and_true, Nat.sub_zero, Nat.zero_add, Int.toNat_natCast]) <;> omega), ?_⟩
      conv => whnf
      refine ⟨(by (try simp only [true_and, and_true, Nat.sub_zero, Nat.zero_add, Int.toNat_natCast]) <;> omega), ?_⟩
      conv => whnf
      refine ⟨(by (try simp only [true_and, and_true, Nat.sub_zero, Nat.zero_add, Int.toNat_natCast]) <;> omega), ?_⟩
      conv => whnf
      refine shr32 (by decide) ?_
      conv => whnf
      refine sumi64 (k + 1) (by omega) (by omega) ?_
      conv => whnf
      refine ⟨_, ?_, _, _, _, rfl, ?_, fun j => if j = i + k then s % 4294967296 else f j, s / 4294967296, k + 1, rfl, rfl, rfl, by omega, Dig_set f2 (Nat.mod_lt _ (by decide)), by omega, (if_neg (by omega)).trans f4, hstep⟩
      · omega
      · exact ⟨⟨rfl, rfl⟩, .set (by omega) rfl, trivial⟩
    · conv => whnf
      have hk : k = size B := by omega
      subst hk
      exact ⟨_, _, _, rfl, .refl _, rfl, f, c, rfl, rfl, f2, f3, f4, f5⟩
  · have hk : i = size A := by omega
    subst hk
    rw [mod_size (Nat.le_refl _)] at g3
    conv => whnf
    exact ⟨_, _, _, rfl, .refl _, rfl, h, rfl, rfl, g2, g3⟩
end Go.Abs
