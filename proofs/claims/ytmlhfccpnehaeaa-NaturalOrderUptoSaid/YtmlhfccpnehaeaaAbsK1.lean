/- Natural numbers: contracts. -/
import Derived.Test.YtmlhfccpnehaeaaAbsN1
set_option autoImplicit false
set_option linter.unusedVariables false
set_option linter.unusedSimpArgs false
namespace Go.Abs
open Go Go.Proofs

theorem view_ok (g : Nat → Nat) (n : Nat) (hg : Dig g n) (hn : n ≤ 4398046511104) : ACall Try.prog 43 [raw g n] (nat (nval g n)) := by
  refine acall_rule env [0, 2, 3, 15] Try.func43 rfl rfl rfl rfl ?_
  conv => whnf
  refine loop_rule [0, 3] [] (fun s : Int => ([(0, raw g n), (3, .f (.int .i64 s))], [])) (fun s => 0 ≤ s ∧ s ≤ n ∧ trimLen g s.toNat = trimLen g n) Int.toNat n rfl ⟨by omega, Int.le_refl _, rfl⟩ ?_
  rintro s ⟨h0, hs, hI⟩
  conv => whnf
  refine spl (fun h1 => ?_) (fun h1 => ?_) <;> simp only [decide_eq_true_eq, decide_eq_false_iff_not, Bool.not_eq_true', Bool.not_eq_false', gt_iff_lt, ge_iff_le] at h1
  · conv => whnf
    refine fit64 (by omega) ?_
    conv => whnf
    refine ⟨(by (try simp only [true_and, and_true, Nat.sub_zero, Nat.zero_add, Int.toNat_natCast]) <;> omega), ?_⟩
    conv => whnf
    have ht : trimLen g s.toNat = if g (s - 1).toNat = 0 then trimLen g (s - 1).toNat else s.toNat := by
      rw [show s.toNat = (s - 1).toNat + 1 by omega]; rfl
    refine spl (fun h2 => ?_) (fun h2 => ?_) <;> simp only [decide_eq_true_eq, decide_eq_false_iff_not, Bool.not_eq_true', Bool.not_eq_false', gt_iff_lt, ge_iff_le] at h2
    · conv => whnf
      refine fit64 (by omega) ?_
      conv => whnf
      exact ⟨s - 1, rfl, ⟨by omega, by omega, by rw [← hI, ht, if_pos (by omega)]⟩, by omega⟩
    · conv => whnf
      refine ⟨(by (try simp only [true_and, and_true, Nat.sub_zero, Nat.zero_add, Int.toNat_natCast]) <;> omega), ?_⟩
      conv => whnf
      refine ⟨(by (try simp only [true_and, and_true, Nat.sub_zero, Nat.zero_add, Int.toNat_natCast]) <;> omega), ?_⟩
      rw [if_neg (by omega)] at ht
      rw [ht] at hI
      rw [hI]
      exact nat_of_trim hg
  · conv => whnf
    refine ⟨(by (try simp only [true_and, and_true, Nat.sub_zero, Nat.zero_add, Int.toNat_natCast]) <;> omega), ?_⟩
    conv => whnf
    refine ⟨(by (try simp only [true_and, and_true, Nat.sub_zero, Nat.zero_add, Int.toNat_natCast]) <;> omega), ?_⟩
    have : s = 0 := by omega
    subst this
    rw [show (0 : Int).toNat = trimLen g n from hI]
    exact nat_of_trim hg

theorem view_nat (N : Nat) (h : size N ≤ 4398046511104) : ACall Try.prog 43 [nat N] (nat N) := by
  have := view_ok (digit N) (size N) (digit_Dig _ _) h
  rw [nval_digit_size] at this; exact this

theorem Trim_ok (g : Nat → Nat) (n : Nat) (hg : Dig g n) (hn : n ≤ 4398046511104) : ACall Try.prog 19 [raw g n] (nat (nval g n)) := by
  have := size_nval hg
  refine acall_rule env [0, 2] Try.func19 rfl rfl rfl rfl ?_
  conv => whnf
  refine callF (view_ok g n hg hn) ⟨.refl _, trivial⟩ (by trivial) rfl ?_
  conv => whnf
  refine ⟨(by (try simp only [true_and, and_true, Nat.sub_zero, Nat.zero_add, Int.toNat_natCast]) <;> omega), ?_⟩
  conv => whnf
  refine ⟨(by (try simp only [true_and, and_true, Nat.sub_zero, Nat.zero_add, Int.toNat_natCast]) <;> omega), ?_⟩
  exact .f (.limbs fun j _ => by simp)

theorem FromUint64_ok (v : Nat) (hv : v < 18446744073709551616) : ACall Try.prog 16 [.f (.int .u64 v)] (nat v) := by
  have h2 : nval (digit v) 2 = v := by rw [nval_digit, Nat.mod_eq_of_lt]; exact hv
  have hv2 := view_ok (digit v) 2 (digit_Dig v 2) (by omega)
  rw [h2] at hv2
  refine acall_rule env [0, 2] Try.func16 rfl rfl rfl rfl ?_
  conv => whnf
  refine lowu32 ?_
  conv => whnf
  refine ⟨(by (try simp only [true_and, and_true, Nat.sub_zero, Nat.zero_add, Int.toNat_natCast]) <;> omega), ?_⟩
  conv => whnf
  refine shr32 (by decide) ?_
  conv => whnf
  refine lowu32 ?_
  conv => whnf
  refine callF hv2 ⟨?_, trivial⟩ ⟨by simp, trivial⟩ rfl ?_
  · refine .f (.sl (fun i hi => ?_) (.inl rfl))
    match i, hi with
    | 0, _ => exact ⟨.int_of (by simp [digit, pw_zero]), trivial⟩
    | 1, _ => exact ⟨.int_of (by simp [digit, pw]), trivial⟩
  conv => whnf
  exact ⟨(by (try simp only [true_and, and_true, Nat.sub_zero, Nat.zero_add, Int.toNat_natCast]) <;> omega), .refl _⟩

theorem Uint64_ok (g : Nat → Nat) (n : Nat) (hg : Dig g n) (hn : n ≤ 4398046511104) : ACall Try.prog 14 [raw g n] (if nval g n < 18446744073709551616 then .tup [.f (.int .u64 (nval g n)), .f (.bool true)] else .tup [.f (.int .u64 0), .f (.bool false)]) := by
  have hs := size_nval hg
  have hv := view_ok g n hg hn
  generalize nval g n = N at hs hv ⊢
  refine acall_rule env [0, 2, 3, 4, 5, 10, 15] Try.func14 rfl rfl rfl rfl ?_
  conv => whnf
  refine callF hv ⟨.refl _, trivial⟩ (by trivial) rfl ?_
  conv => whnf
  refine spl (fun h1 => ?_) (fun h1 => ?_) <;> simp only [decide_eq_true_eq, decide_eq_false_iff_not, Bool.not_eq_true', Bool.not_eq_false', gt_iff_lt, ge_iff_le] at h1
  · conv => whnf
    refine ⟨(by (try simp only [true_and, and_true, Nat.sub_zero, Nat.zero_add, Int.toNat_natCast]) <;> omega), ?_⟩
    rw [if_neg (by intro h; have := size_le (N := N) (n := 2) h; omega)]
    exact .refl _
  have hN : N < 18446744073709551616 := Nat.lt_of_lt_of_le (lt_pw_size N) (pw_le (j := 2) (by omega))
  rw [if_pos hN]
  conv => whnf
  refine fit64 (by omega) ?_
  conv => whnf
  refine loop_rule [0, 4, 5] [] (fun s : Nat × Int => ([(0, nat N), (4, .f (.int .u64 s.1)), (5, .f (.int .i64 s.2))], [])) (fun s => -1 ≤ s.2 ∧ s.2 < size N ∧ s.1 = N / pw (s.2 + 1).toNat) (fun s => (s.2 + 1).toNat) (0, (size N : Int) - 1) rfl ⟨by simp only; omega, by simp only; omega, ?_⟩ ?_
  · simp only
    rw [show ((size N : Int) - 1 + 1).toNat = size N by omega, div_size]
  rintro ⟨v, i⟩ ⟨h2, h3, h4⟩
  simp only at h2 h3 h4 ⊢
  conv => whnf
  refine spl (fun h5 => ?_) (fun h5 => ?_) <;> simp only [decide_eq_true_eq, decide_eq_false_iff_not, Bool.not_eq_true', Bool.not_eq_false', gt_iff_lt, ge_iff_le] at h5
  · conv => whnf
    have e1 : (i + 1).toNat = i.toNat + 1 := by omega
    have hv : v < 4294967296 := by
      rw [h4, e1, pw_succ, ← Nat.div_div_eq_div_mul]
      have := Nat.div_le_self N (pw i.toNat)
      omega
    have hd := digit_lt N i.toNat
    refine ⟨(by (try simp only [true_and, and_true, Nat.sub_zero, Nat.zero_add, Int.toNat_natCast]) <;> omega), ?_⟩
    conv => whnf
    refine shl32 (v * 4294967296) (by omega) ?_
    conv => whnf
    refine ⟨(by (try simp only [true_and, and_true, Nat.sub_zero, Nat.zero_add, Int.toNat_natCast]) <;> omega), ?_⟩
    conv => whnf
    refine fitu64 (by omega) ?_
    conv => whnf
    refine or32 hv hd ?_
    conv => whnf
    refine fit64 (by omega) ?_
    conv => whnf
    refine ⟨(_, _), rfl, ⟨by simp only; omega, by simp only; omega, ?_⟩, by simp only; omega⟩
    simp only
    rw [show (i - 1 + 1).toNat = i.toNat by omega, div_step, h4, e1]
  · conv => whnf
    refine ⟨(by (try simp only [true_and, and_true, Nat.sub_zero, Nat.zero_add, Int.toNat_natCast]) <;> omega), ?_⟩
    have : i = -1 := by omega
    subst this
    rw [h4]
    exact .tup ⟨.int_of (by simp [pw_zero]), .refl _, trivial⟩
end Go.Abs
