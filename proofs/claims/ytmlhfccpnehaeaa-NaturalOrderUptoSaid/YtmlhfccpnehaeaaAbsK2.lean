/- Natural numbers: Compare, Add, Sub. -/
import Derived.Test.YtmlhfccpnehaeaaAbsK1
set_option autoImplicit false
set_option linter.unusedVariables false
set_option linter.unusedSimpArgs false
namespace Go.Abs
open Go Go.Proofs

theorem lt_of_size {A B : Nat} (h : size A < size B) : A < B := Nat.lt_of_lt_of_le (lt_pw_size A) (pw_size_le h)
theorem lt_of_div {A B p : Nat} (h : A / p < B / p) : A < B := by
  apply Classical.byContradiction; intro hn
  have := Nat.div_le_div_right (c := p) (show B ≤ A by omega); omega
def cmp (A B : Nat) : Int := if A < B then -1 else if A = B then 0 else 1

theorem Compare_ok (g h : Nat → Nat) (n m : Nat) (hg : Dig g n) (hh : Dig h m) (hn : n ≤ 4398046511104) (hm : m ≤ 4398046511104) :
    ACall Try.prog 22 [raw g n, raw h m] (.f (.int .i64 (cmp (nval g n) (nval h m)))) := by
  have hA := size_nval hg
  have hB := size_nval hh
  have va := view_ok g n hg hn
  have vb := view_ok h m hh hm
  generalize nval g n = A at hA va ⊢
  generalize nval h m = B at hB vb ⊢
  refine acall_rule env [0, 1, 4, 5, 14, 19, 24, 35, 44] Try.func22 rfl rfl rfl rfl ?_
  conv => whnf
  refine callF va ⟨.refl _, trivial⟩ (by trivial) rfl ?_
  conv => whnf
  refine callF vb ⟨.refl _, trivial⟩ (by trivial) rfl ?_
  conv => whnf
  refine spl (fun h1 => ?_) (fun h1 => ?_) <;> simp only [decide_eq_true_eq, decide_eq_false_iff_not, Bool.not_eq_true', Bool.not_eq_false', gt_iff_lt, ge_iff_le] at h1
  · conv => whnf
    refine spl (fun h2 => ?_) (fun h2 => ?_) <;> simp only [decide_eq_true_eq, decide_eq_false_iff_not, Bool.not_eq_true', Bool.not_eq_false', gt_iff_lt, ge_iff_le] at h2
    · conv => whnf
      refine ⟨(by (try simp only [true_and, and_true, Nat.sub_zero, Nat.zero_add, Int.toNat_natCast]) <;> omega), ?_⟩
      have := lt_of_size (A := A) (B := B) (by omega)
      exact .int_of (by simp [cmp, this])
    · conv => whnf
      refine ⟨(by (try simp only [true_and, and_true, Nat.sub_zero, Nat.zero_add, Int.toNat_natCast]) <;> omega), ?_⟩
      have := lt_of_size (A := B) (B := A) (by omega)
      exact .int_of (by unfold cmp; rw [if_neg (by omega), if_neg (by omega)])
  · conv => whnf
    have hs : size A = size B := by omega
    refine fit64 (by omega) ?_
    conv => whnf
    refine loop_rule [0, 1, 5] [] (fun s : Int => ([(0, nat A), (1, nat B), (5, .f (.int .i64 s))], [])) (fun s => -1 ≤ s ∧ s < size A ∧ A / pw (s + 1).toNat = B / pw (s + 1).toNat) (fun s => (s + 1).toNat) ((size A : Int) - 1) rfl ⟨by omega, by omega, ?_⟩ ?_
    · rw [show ((size A : Int) - 1 + 1).toNat = size A by omega, div_size, hs, div_size]
    rintro i ⟨h2, h3, h4⟩
    conv => whnf
    refine spl (fun h5 => ?_) (fun h5 => ?_) <;> simp only [decide_eq_true_eq, decide_eq_false_iff_not, Bool.not_eq_true', Bool.not_eq_false', gt_iff_lt, ge_iff_le] at h5
    · conv => whnf
      refine ⟨(by (try simp only [true_and, and_true, Nat.sub_zero, Nat.zero_add, Int.toNat_natCast]) <;> omega), ?_⟩
      conv => whnf
      refine ⟨(by (try simp only [true_and, and_true, Nat.sub_zero, Nat.zero_add, Int.toNat_natCast]) <;> omega), ?_⟩
      conv => whnf
      refine ⟨by kernel_rfl, ?_⟩
      have e1 : (i + 1).toNat = i.toNat + 1 := by omega
      rw [e1] at h4
      have da := div_step A i.toNat
      have db := div_step B i.toNat
      rw [h4] at da
      conv => whnf
      refine spl (fun h6 => ?_) (fun h6 => ?_) <;> simp only [decide_eq_true_eq, decide_eq_false_iff_not, Bool.not_eq_true', Bool.not_eq_false', gt_iff_lt, ge_iff_le] at h6
      · conv => whnf
        refine ⟨(by (try simp only [true_and, and_true, Nat.sub_zero, Nat.zero_add, Int.toNat_natCast]) <;> omega), ?_⟩
        conv => whnf
        refine ⟨(by (try simp only [true_and, and_true, Nat.sub_zero, Nat.zero_add, Int.toNat_natCast]) <;> omega), ?_⟩
        conv => whnf
        refine ⟨by kernel_rfl, ?_⟩
        conv => whnf
        refine spl (fun h7 => ?_) (fun h7 => ?_) <;> simp only [decide_eq_true_eq, decide_eq_false_iff_not, Bool.not_eq_true', Bool.not_eq_false', gt_iff_lt, ge_iff_le] at h7
        · conv => whnf
          refine ⟨(by (try simp only [true_and, and_true, Nat.sub_zero, Nat.zero_add, Int.toNat_natCast]) <;> omega), ?_⟩
          have := lt_of_div (A := A) (B := B) (p := pw i.toNat) (by omega)
          exact .int_of (by simp [cmp, this])
        · conv => whnf
          refine ⟨(by (try simp only [true_and, and_true, Nat.sub_zero, Nat.zero_add, Int.toNat_natCast]) <;> omega), ?_⟩
          have := lt_of_div (A := B) (B := A) (p := pw i.toNat) (by omega)
          exact .int_of (by unfold cmp; rw [if_neg (by omega), if_neg (by omega)])
      · conv => whnf
        refine fit64 (by omega) ?_
        conv => whnf
        refine ⟨i - 1, rfl, ⟨by omega, by omega, ?_⟩, by omega⟩
        rw [show (i - 1 + 1).toNat = i.toNat by omega]
        omega
    · conv => whnf
      refine ⟨(by (try simp only [true_and, and_true, Nat.sub_zero, Nat.zero_add, Int.toNat_natCast]) <;> omega), ?_⟩
      have : i = -1 := by omega
      subst this
      have h4 : A / pw 0 = B / pw 0 := h4
      rw [pw_zero, Nat.div_one, Nat.div_one] at h4
      exact .int_of (by unfold cmp; rw [if_neg (by omega), if_pos h4])
end Go.Abs
