/- Natural numbers: Add. -/
import Derived.Test.YtmlhfccpnehaeaaAbsK2
set_option autoImplicit false
set_option linter.unusedVariables false
set_option linter.unusedSimpArgs false
namespace Go.Abs
open Go Go.Proofs

theorem add_step {h : Nat → Nat} {A B c k s : Nat} (e : nval h k + c * pw k = A % pw k + B % pw k) (hs : s = digit A k + c + digit B k) :
    nval (fun j => if j = k then s % 4294967296 else h j) (k + 1) + s / 4294967296 * pw (k + 1) = A % pw (k + 1) + B % pw (k + 1) := by
  rw [nval_set, mod_step, mod_step, pw_succ]
  have := Nat.div_add_mod s 4294967296
  generalize s / 4294967296 = q at *
  generalize s % 4294967296 = r at *
  grind


theorem Add_ok (g h : Nat → Nat) (n m : Nat) (hg : Dig g n) (hh : Dig h m) (hn : n < 4398046511104) (hm : m < 4398046511104) :
    ACall Try.prog 26 [raw g n, raw h m] (nat (nval g n + nval h m)) := by
  have hA := size_nval hg
  have hB := size_nval hh
  have va := view_ok g n hg (by omega)
  have vb := view_ok h m hh (by omega)
  generalize nval g n = A at hA va ⊢
  generalize nval h m = B at hB vb ⊢
  refine acall_rule env [0, 1, 4, 5, 6, 7, 8, 9, 18, 25, 26, 27, 28, 39] Try.func26 rfl rfl rfl rfl ?_
  conv => whnf
  refine callF va ⟨.refl _, trivial⟩ (by trivial) rfl ?_
  conv => whnf
  refine callF vb ⟨.refl _, trivial⟩ (by trivial) rfl ?_
  conv => whnf
  refine spl (fun h1 => ?_) (fun h1 => ?_) <;> simp only [decide_eq_true_eq, decide_eq_false_iff_not, Bool.not_eq_true', Bool.not_eq_false', gt_iff_lt, ge_iff_le] at h1
  · rw [Nat.add_comm]
    conv => whnf
    refine sumi64 (size B + 1) (by omega) (by omega) ?_
    conv => whnf
    refine ⟨(by (try simp only [true_and, and_true, Nat.sub_zero, Nat.zero_add, Int.toNat_natCast]) <;> omega), ?_⟩
    conv => whnf
    refine loop_rule2 [0, 1, 5, 6, 25, 26, 27] [24] (fun s : (Nat → Nat) × Nat × Nat => ([(0, nat B), (1, nat A), (5, .lsl 24 1 1 0 (size B + 1) (some (size B + 1))), (6, .f (.int .u64 s.2.1)), (25, nat B), (26, .f (.int .i64 (size B : Nat))), (27, .f (.int .i64 s.2.2))], [(24, 1, .fa 1 (size B + 1) (fun j => [.int .u32 (s.1 j : Nat)]))])) (fun s => s.2.2 ≤ size B ∧ Dig s.1 s.2.2 ∧ s.2.1 < 2 ∧ nval s.1 s.2.2 + s.2.1 * pw s.2.2 = B % pw s.2.2 + A % pw s.2.2) (fun s => size B - s.2.2) (fun _ => 0, 0, 0) ⟨_, rfl, .refl _⟩ ⟨Nat.zero_le _, fun j hj => absurd hj (by simp), by simp, by simp [pw_zero, Nat.mod_one, nval_zero]⟩ ?_
    rintro ⟨h, c, k⟩ ⟨h1, h2, h3, h4⟩
    simp only at h1 h2 h3 h4 ⊢
    conv => whnf
    refine spl (fun h5 => ?_) (fun h5 => ?_) <;> simp only [decide_eq_true_eq, decide_eq_false_iff_not, Bool.not_eq_true', Bool.not_eq_false', gt_iff_lt, ge_iff_le] at h5
    · conv => whnf
      have hd := digit_lt B k
      have hd2 := digit_lt A k
      refine ⟨(by (try simp only [true_and, and_true, Nat.sub_zero, Nat.zero_add, Int.toNat_natCast]) <;> omega), ?_⟩
      conv => whnf
      refine sumu64 (digit B k) rfl (by omega) ?_
      conv => whnf
      refine sumu64 (digit B k + c) (by omega) (by omega) ?_
      conv => whnf
      refine spl (fun h6 => ?_) (fun h6 => ?_) <;> simp only [decide_eq_true_eq, decide_eq_false_iff_not, Bool.not_eq_true', Bool.not_eq_false', gt_iff_lt, ge_iff_le] at h6
      · conv => whnf
        refine ⟨(by (try simp only [true_and, and_true, Nat.sub_zero, Nat.zero_add, Int.toNat_natCast]) <;> omega), ?_⟩
        conv => whnf
        refine sumu64 (digit A k) rfl (by omega) ?_
        conv => whnf
        refine sumu64 (digit B k + c + digit A k) (by omega) (by omega) ?_
        conv => whnf
        have hstep := add_step h4 (s := digit B k + c + digit A k) rfl
        generalize hs : digit B k + c + digit A k = s at hstep ⊢
        refine lowu32 ?_
        conv => whnf
        refine ⟨(by (try simp only [true_and, and_true, Nat.sub_zero, Nat.zero_add, Int.toNat_natCast]) <;> omega), ?_⟩
        conv => whnf
        refine ⟨(by (try simp only [true_and, and_true, Nat.sub_zero, Nat.zero_add, Int.toNat_natCast]) <;> omega), ?_⟩
        conv => whnf
        refine ⟨(by (try simp only [true_and, and_true, Nat.sub_zero, Nat.zero_add, Int.toNat_natCast]) <;> omega), ?_⟩
        conv => whnf
        refine shr32 (by decide) ?_
        conv => whnf
        refine sumi64 (k + 1) (by omega) (by omega) ?_
        conv => whnf
        exact ⟨(fun j => if j = k then s % 4294967296 else h j, s / 4294967296, k + 1), _, rfl, ⟨⟨rfl, rfl⟩, .set (by simp) rfl, trivial⟩, ⟨by simp only; omega, Dig_set1 h2 (Nat.mod_lt _ (by decide)), by simp only; omega, hstep⟩, by simp only; omega⟩
      · conv => whnf
        have hz : digit A k = 0 := digit_zero_of_size (by omega)
        rw [show digit B k + c = digit B k + c + digit A k by omega]
        have hstep := add_step h4 (s := digit B k + c + digit A k) rfl
        generalize hs : digit B k + c + digit A k = s at hstep ⊢
        refine lowu32 ?_
        conv => whnf
        refine ⟨(by (try simp only [true_and, and_true, Nat.sub_zero, Nat.zero_add, Int.toNat_natCast]) <;> omega), ?_⟩
        conv => whnf
        refine ⟨(by (try simp only [true_and, and_true, Nat.sub_zero, Nat.zero_add, Int.toNat_natCast]) <;> omega), ?_⟩
        conv => whnf
        refine ⟨(by (try simp only [true_and, and_true, Nat.sub_zero, Nat.zero_add, Int.toNat_natCast]) <;> omega), ?_⟩
        conv => whnf
        refine shr32 (by decide) ?_
        conv => whnf
        refine sumi64 (k + 1) (by omega) (by omega) ?_
        conv => whnf
        exact ⟨(fun j => if j = k then s % 4294967296 else h j, s / 4294967296, k + 1), _, rfl, ⟨⟨rfl, rfl⟩, .set (by simp) rfl, trivial⟩, ⟨by simp only; omega, Dig_set1 h2 (Nat.mod_lt _ (by decide)), by simp only; omega, hstep⟩, by simp only; omega⟩
    · conv => whnf
      have hk : k = size B := by omega
      subst hk
      refine sumu32 c rfl (by omega) ?_
      conv => whnf
      refine ⟨(by (try simp only [true_and, and_true, Nat.sub_zero, Nat.zero_add, Int.toNat_natCast]) <;> omega), ?_⟩
      conv => whnf
      refine ⟨(by (try simp only [true_and, and_true, Nat.sub_zero, Nat.zero_add, Int.toNat_natCast]) <;> omega), ?_⟩
      conv => whnf
      rw [mod_size (Nat.le_refl _), mod_size (n := size B) (by omega)] at h4
      have hS := nval_set h (size B) c
      have hv := view_ok _ (size B + 1) (Dig_set1 h2 (show c < 4294967296 by omega)) (by omega)
      rw [hS, h4] at hv
      refine callF hv ⟨.raw_set (by simp) rfl, trivial⟩ (by (try simp only [true_and, and_true, Nat.sub_zero, Nat.zero_add, Int.toNat_natCast]) <;> omega) rfl ?_
      conv => whnf
      refine ⟨(by (try simp only [true_and, and_true, Nat.sub_zero, Nat.zero_add, Int.toNat_natCast]) <;> omega), ?_⟩
      exact .refl _
  · conv => whnf
    refine sumi64 (size A + 1) (by omega) (by omega) ?_
    conv => whnf
    refine ⟨(by (try simp only [true_and, and_true, Nat.sub_zero, Nat.zero_add, Int.toNat_natCast]) <;> omega), ?_⟩
    conv => whnf
    refine loop_rule2 [0, 1, 5, 6, 25, 26, 27] [24] (fun s : (Nat → Nat) × Nat × Nat => ([(0, nat A), (1, nat B), (5, .lsl 24 1 1 0 (size A + 1) (some (size A + 1))), (6, .f (.int .u64 s.2.1)), (25, nat A), (26, .f (.int .i64 (size A : Nat))), (27, .f (.int .i64 s.2.2))], [(24, 1, .fa 1 (size A + 1) (fun j => [.int .u32 (s.1 j : Nat)]))])) (fun s => s.2.2 ≤ size A ∧ Dig s.1 s.2.2 ∧ s.2.1 < 2 ∧ nval s.1 s.2.2 + s.2.1 * pw s.2.2 = A % pw s.2.2 + B % pw s.2.2) (fun s => size A - s.2.2) (fun _ => 0, 0, 0) ⟨_, rfl, .refl _⟩ ⟨Nat.zero_le _, fun j hj => absurd hj (by simp), by simp, by simp [pw_zero, Nat.mod_one, nval_zero]⟩ ?_
    rintro ⟨h, c, k⟩ ⟨h1, h2, h3, h4⟩
    simp only at h1 h2 h3 h4 ⊢
    conv => whnf
    refine spl (fun h5 => ?_) (fun h5 => ?_) <;> simp only [decide_eq_true_eq, decide_eq_false_iff_not, Bool.not_eq_true', Bool.not_eq_false', gt_iff_lt, ge_iff_le] at h5
    · conv => whnf
      have hd := digit_lt A k
      have hd2 := digit_lt B k
      refine ⟨(by (try simp only [true_and, and_true, Nat.sub_zero, Nat.zero_add, Int.toNat_natCast]) <;> omega), ?_⟩
      conv => whnf
      refine sumu64 (digit A k) rfl (by omega) ?_
      conv => whnf
      refine sumu64 (digit A k + c) (by omega) (by omega) ?_
      conv => whnf
      refine spl (fun h6 => ?_) (fun h6 => ?_) <;> simp only [decide_eq_true_eq, decide_eq_false_iff_not, Bool.not_eq_true', Bool.not_eq_false', gt_iff_lt, ge_iff_le] at h6
      · conv => whnf
        refine ⟨(by (try simp only [true_and, and_true, Nat.sub_zero, Nat.zero_add, Int.toNat_natCast]) <;> omega), ?_⟩
        conv => whnf
        refine sumu64 (digit B k) rfl (by omega) ?_
        conv => whnf
        refine sumu64 (digit A k + c + digit B k) (by omega) (by omega) ?_
        conv => whnf
        have hstep := add_step h4 (s := digit A k + c + digit B k) rfl
        generalize hs : digit A k + c + digit B k = s at hstep ⊢
        refine lowu32 ?_
        conv => whnf
        refine ⟨(by (try simp only [true_and, and_true, Nat.sub_zero, Nat.zero_add, Int.toNat_natCast]) <;> omega), ?_⟩
        conv => whnf
        refine ⟨(by (try simp only [true_and, and_true, Nat.sub_zero, Nat.zero_add, Int.toNat_natCast]) <;> omega), ?_⟩
        conv => whnf
        refine ⟨(by (try simp only [true_and, and_true, Nat.sub_zero, Nat.zero_add, Int.toNat_natCast]) <;> omega), ?_⟩
        conv => whnf
        refine shr32 (by decide) ?_
        conv => whnf
        refine sumi64 (k + 1) (by omega) (by omega) ?_
        conv => whnf
        exact ⟨(fun j => if j = k then s % 4294967296 else h j, s / 4294967296, k + 1), _, rfl, ⟨⟨rfl, rfl⟩, .set (by simp) rfl, trivial⟩, ⟨by simp only; omega, Dig_set1 h2 (Nat.mod_lt _ (by decide)), by simp only; omega, hstep⟩, by simp only; omega⟩
      · conv => whnf
        have hz : digit B k = 0 := digit_zero_of_size (by omega)
        rw [show digit A k + c = digit A k + c + digit B k by omega]
        have hstep := add_step h4 (s := digit A k + c + digit B k) rfl
        generalize hs : digit A k + c + digit B k = s at hstep ⊢
        refine lowu32 ?_
        conv => whnf
        refine ⟨(by (try simp only [true_and, and_true, Nat.sub_zero, Nat.zero_add, Int.toNat_natCast]) <;> omega), ?_⟩
        conv => whnf
        refine ⟨(by (try simp only [true_and, and_true, Nat.sub_zero, Nat.zero_add, Int.toNat_natCast]) <;> omega), ?_⟩
        conv => whnf
        refine ⟨(by (try simp only [true_and, and_true, Nat.sub_zero, Nat.zero_add, Int.toNat_natCast]) <;> omega), ?_⟩
        conv => whnf
        refine shr32 (by decide) ?_
        conv => whnf
        refine sumi64 (k + 1) (by omega) (by omega) ?_
        conv => whnf
        exact ⟨(fun j => if j = k then s % 4294967296 else h j, s / 4294967296, k + 1), _, rfl, ⟨⟨rfl, rfl⟩, .set (by simp) rfl, trivial⟩, ⟨by simp only; omega, Dig_set1 h2 (Nat.mod_lt _ (by decide)), by simp only; omega, hstep⟩, by simp only; omega⟩
    · conv => whnf
      have hk : k = size A := by omega
      subst hk
      refine sumu32 c rfl (by omega) ?_
      conv => whnf
      refine ⟨(by (try simp only [true_and, and_true, Nat.sub_zero, Nat.zero_add, Int.toNat_natCast]) <;> omega), ?_⟩
      conv => whnf
      refine ⟨(by (try simp only [true_and, and_true, Nat.sub_zero, Nat.zero_add, Int.toNat_natCast]) <;> omega), ?_⟩
      conv => whnf
      rw [mod_size (Nat.le_refl _), mod_size (n := size A) (by omega)] at h4
      have hS := nval_set h (size A) c
      have hv := view_ok _ (size A + 1) (Dig_set1 h2 (show c < 4294967296 by omega)) (by omega)
      rw [hS, h4] at hv
      refine callF hv ⟨.raw_set (by simp) rfl, trivial⟩ (by (try simp only [true_and, and_true, Nat.sub_zero, Nat.zero_add, Int.toNat_natCast]) <;> omega) rfl ?_
      conv => whnf
      refine ⟨(by (try simp only [true_and, and_true, Nat.sub_zero, Nat.zero_add, Int.toNat_natCast]) <;> omega), ?_⟩
      exact .refl _
end Go.Abs
