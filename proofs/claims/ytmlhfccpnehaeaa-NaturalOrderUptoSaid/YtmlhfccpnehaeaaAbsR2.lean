/- The reference's natural numbers: FromUint64, Uint64, Compare. -/
import Derived.Test.YtmlhfccpnehaeaaAbsR1
set_option autoImplicit false
set_option maxHeartbeats 4000000
set_option linter.unusedVariables false
set_option linter.unusedSimpArgs false
namespace Go.Abs
open Go Go.Proofs

theorem refFromUint64_ok (v : Nat) (hv : v < 18446744073709551616) : ACall Try.prog 21 [.f (.int .u64 v)] (nat v) := by
  have h2 : nval (digit v) 2 = v := by rw [nval_digit, Nat.mod_eq_of_lt]; exact hv
  have hv2 := refTrim_ok (digit v) 2 (digit_Dig v 2) (by omega)
  rw [h2] at hv2
  refine acall_rule env [0, 2] Try.func21 rfl rfl rfl rfl ?_
  conv => whnf
  refine lowu32 ?_
  conv => whnf
  refine ⟨(by (try simp only [true_and, and_true, Nat.sub_zero, Nat.zero_add, Int.toNat_natCast]) <;> omega), ?_⟩
  conv => whnf
  refine shr32 (by decide) ?_
  conv => whnf
  refine lowu32 ?_
  conv => whnf
  refine callF hv2 ⟨?_, trivial⟩ ⟨by simp, trivial⟩ rfl ?_
  · refine .f (.sl (fun i hi => ?_) (.inl rfl))
    match i, hi with
    | 0, _ => exact ⟨.int_of (by simp [digit, pw_zero]), trivial⟩
    | 1, _ => exact ⟨.int_of (by simp [digit, pw]), trivial⟩
  conv => whnf
  exact ⟨(by (try simp only [true_and, and_true, Nat.sub_zero, Nat.zero_add, Int.toNat_natCast]) <;> omega), .refl _⟩

theorem refUint64_ok (g : Nat → Nat) (n : Nat) (hg : Dig g n) (hn : n ≤ 4398046511104) : ACall Try.prog 15 [raw g n] (if nval g n < 18446744073709551616 then .tup [.f (.int .u64 (nval g n)), .f (.bool true)] else .tup [.f (.int .u64 0), .f (.bool false)]) := by
  have hs := size_nval hg
  have hv := refTrim_ok g n hg hn
  generalize nval g n = N at hs hv ⊢
  refine acall_rule env [0, 2, 3, 4, 5, 10, 15] Try.func15 rfl rfl rfl rfl ?_
  conv => whnf
  refine callF hv ⟨.refl _, trivial⟩ (by trivial) rfl ?_
  conv => whnf
  refine spl (fun h1 => ?_) (fun h1 => ?_) <;> simp only [decide_eq_true_eq, decide_eq_false_iff_not, Bool.not_eq_true', Bool.not_eq_false', gt_iff_lt, ge_iff_le] at h1
  · conv => whnf
    refine ⟨(by (try simp only [true_and, and_true, Nat.sub_zero, Nat.zero_add, Int.toNat_natCast]) <;> omega), ?_⟩
    rw [if_neg (by intro h; have := size_le (N := N) (n := 2) h; omega)]
    exact .refl _
  have hN : N < 18446744073709551616 := Nat.lt_of_lt_of_le (lt_pw_size N) (pw_le (j := 2) (by omega))
  rw [if_pos hN]
  conv => whnf
  refine fit64 (by omega) ?_
  conv => whnf
  refine loop_rule [0, 4, 5] [] (fun s : Nat × Int => ([(0, nat N), (4, .f (.int .u64 s.1)), (5, .f (.int .i64 s.2))], [])) (fun s => -1 ≤ s.2 ∧ s.2 < size N ∧ s.1 = N / pw (s.2 + 1).toNat) (fun s => (s.2 + 1).toNat) (0, (size N : Int) - 1) rfl ⟨by simp only; omega, by simp only; omega, ?_⟩ ?_
  · simp only
    rw [show ((size N : Int) - 1 + 1).toNat = size N by omega, div_size]
  rintro ⟨v, i⟩ ⟨h2, h3, h4⟩
  simp only at h2 h3 h4 ⊢
  conv => whnf
  refine spl (fun h5 => ?_) (fun h5 => ?_) <;> simp only [decide_eq_true_eq, decide_eq_false_iff_not, Bool.not_eq_true', Bool.not_eq_false', gt_iff_lt, ge_iff_le] at h5
  · conv => whnf
    have e1 : (i + 1).toNat = i.toNat + 1 := by omega
    have hv : v < 4294967296 := by
      rw [h4, e1, pw_succ, ← Nat.div_div_eq_div_mul]
      have := Nat.div_le_self N (pw i.toNat)
      omega
    have hd := digit_lt N i.toNat
    refine ⟨(by (try simp only [true_and, and_true, Nat.sub_zero, Nat.zero_add, Int.toNat_natCast]) <;> omega), ?_⟩
    conv => whnf
    refine shl32 (v * 4294967296) (by omega) ?_
    conv => whnf
    refine ⟨(by (try simp only [true_and, and_true, Nat.sub_zero, Nat.zero_add, Int.toNat_natCast]) <;> omega), ?_⟩
    conv => whnf
    refine fitu64 (by omega) ?_
    conv => whnf
    refine or32 hv hd ?_
    conv => whnf
    refine fit64 (by omega) ?_
    conv => whnf
    refine ⟨(_, _), rfl, ⟨by simp only; omega, by simp only; omega, ?_⟩, by simp only; omega⟩
    simp only
    rw [show (i - 1 + 1).toNat = i.toNat by omega, div_step, h4, e1]
  · conv => whnf
    refine ⟨(by (try simp only [true_and, and_true, Nat.sub_zero, Nat.zero_add, Int.toNat_natCast]) <;> omega), ?_⟩
    have : i = -1 := by omega
    subst this
    rw [h4]
    exact .tup ⟨.int_of (by simp [pw_zero]), .refl _, trivial⟩
theorem refCompare_ok (g h : Nat → Nat) (n m : Nat) (hg : Dig g n) (hh : Dig h m) (hn : n ≤ 4398046511104) (hm : m ≤ 4398046511104) :
    ACall Try.prog 23 [raw g n, raw h m] (.f (.int .i64 (cmp (nval g n) (nval h m)))) := by
  have hA := size_nval hg
  have hB := size_nval hh
  have va := refTrim_ok g n hg hn
  have vb := refTrim_ok h m hh hm
  generalize nval g n = A at hA va ⊢
  generalize nval h m = B at hB vb ⊢
  refine acall_rule env [0, 1, 4, 5, 14, 19, 24, 35, 44] Try.func23 rfl rfl rfl rfl ?_
  conv => whnf
  refine callF va ⟨.refl _, trivial⟩ (by trivial) rfl ?_
  conv => whnf
  refine callF vb ⟨.refl _, trivial⟩ (by trivial) rfl ?_
  conv => whnf
  refine spl (fun h1 => ?_) (fun h1 => ?_) <;> simp only [decide_eq_true_eq, decide_eq_false_iff_not, Bool.not_eq_true', Bool.not_eq_false', gt_iff_lt, ge_iff_le] at h1
  · conv => whnf
    refine spl (fun h2 => ?_) (fun h2 => ?_) <;> simp only [decide_eq_true_eq, decide_eq_false_iff_not, Bool.not_eq_true', Bool.not_eq_false', gt_iff_lt, ge_iff_le] at h2
    · conv => whnf
      refine ⟨(by (try simp only [true_and, and_true, Nat.sub_zero, Nat.zero_add, Int.toNat_natCast]) <;> omega), ?_⟩
      have := lt_of_size (A := A) (B := B) (by omega)
      exact .int_of (by simp [cmp, this])
    · conv => whnf
      refine ⟨(by (try simp only [true_and, and_true, Nat.sub_zero, Nat.zero_add, Int.toNat_natCast]) <;> omega), ?_⟩
      have := lt_of_size (A := B) (B := A) (by omega)
      exact .int_of (by unfold cmp; rw [if_neg (by omega), if_neg (by omega)])
  · conv => whnf
    have hs : size A = size B := by omega
    refine fit64 (by omega) ?_
    conv => whnf
    refine loop_rule [0, 1, 5] [] (fun s : Int => ([(0, nat A), (1, nat B), (5, .f (.int .i64 s))], [])) (fun s => -1 ≤ s ∧ s < size A ∧ A / pw (s + 1).toNat = B / pw (s + 1).toNat) (fun s => (s + 1).toNat) ((size A : Int) - 1) rfl ⟨by omega, by omega, ?_⟩ ?_
    · rw [show ((size A : Int) - 1 + 1).toNat = size A by omega, div_size, hs, div_size]
    rintro i ⟨h2, h3, h4⟩
    conv => whnf
    refine spl (fun h5 => ?_) (fun h5 => ?_) <;> simp only [decide_eq_true_eq, decide_eq_false_iff_not, Bool.not_eq_true', Bool.not_eq_false', gt_iff_lt, ge_iff_le] at h5
    · conv => whnf
      refine ⟨(by (try simp only [true_and, and_true, Nat.sub_zero, Nat.zero_add, Int.toNat_natCast]) <;> omega), ?_⟩
      conv => whnf
      refine ⟨(by (try simp only [true_and, and_true, Nat.sub_zero, Nat.zero_add, Int.toNat_natCast]) <;> omega), ?_⟩
      conv => whnf
      refine ⟨by kernel_rfl, ?_⟩
      have e1 : (i + 1).toNat = i.toNat + 1 := by omega
      rw [e1] at h4
      have da := div_step A i.toNat
      have db := div_step B i.toNat
      rw [h4] at da
      conv => whnf
      refine spl (fun h6 => ?_) (fun h6 => ?_) <;> simp only [decide_eq_true_eq, decide_eq_false_iff_not, Bool.not_eq_true', Bool.not_eq_false', gt_iff_lt, ge_iff_le] at h6
      · conv => whnf
        refine ⟨(by (try simp only [true_and, and_true, Nat.sub_zero, Nat.zero_add, Int.toNat_natCast]) <;> omega), ?_⟩
        have := lt_of_div (A := A) (B := B) (p := pw i.toNat) (by omega)
        exact .int_of (by simp [cmp, this])
      conv => whnf
      refine ⟨(by (try simp only [true_and, and_true, Nat.sub_zero, Nat.zero_add, Int.toNat_natCast]) <;> omega), ?_⟩
      conv => whnf
      refine ⟨(by (try simp only [true_and, and_true, Nat.sub_zero, Nat.zero_add, Int.toNat_natCast]) <;> omega), ?_⟩
      conv => whnf
      refine ⟨by kernel_rfl, ?_⟩
      conv => whnf
      refine spl (fun h7 => ?_) (fun h7 => ?_) <;> simp only [decide_eq_true_eq, decide_eq_false_iff_not, Bool.not_eq_true', Bool.not_eq_false', gt_iff_lt, ge_iff_le] at h7
      · conv => whnf
        refine ⟨(by (try simp only [true_and, and_true, Nat.sub_zero, Nat.zero_add, Int.toNat_natCast]) <;> omega), ?_⟩
        have := lt_of_div (A := B) (B := A) (p := pw i.toNat) (by omega)
        exact .int_of (by unfold cmp; rw [if_neg (by omega), if_neg (by omega)])
      · conv => whnf
        refine fit64 (by omega) ?_
        conv => whnf
        refine ⟨i - 1, rfl, ⟨by omega, by omega, ?_⟩, by omega⟩
        rw [show (i - 1 + 1).toNat = i.toNat by omega]
        omega
    · conv => whnf
      refine ⟨(by (try simp only [true_and, and_true, Nat.sub_zero, Nat.zero_add, Int.toNat_natCast]) <;> omega), ?_⟩
      have : i = -1 := by omega
      subst this
      have h4 : A / pw 0 = B / pw 0 := h4
      rw [pw_zero, Nat.div_one, Nat.div_one] at h4
      exact .int_of (by unfold cmp; rw [if_neg (by omega), if_pos h4])
end Go.Abs
