/- Natural numbers: Sub. -/
import Derived.Test.YtmlhfccpnehaeaaAbsK2
set_option autoImplicit false
set_option linter.unusedVariables false
set_option linter.unusedSimpArgs false
namespace Go.Abs
open Go Go.Proofs

theorem cmp_lt {A B : Nat} : cmp A B < 0 ↔ A < B := by
  unfold cmp; split
  · simp [*]
  · split <;> simp [*]
theorem sub_step {h : Nat → Nat} {A B c k r : Nat} (e : nval h k + B % pw k = A % pw k + c * pw k) (hc : c < 2) (hr : r = (digit A k + 18446744073709551616 - c - digit B k) % 18446744073709551616) :
    nval (fun j => if j = k then r % 4294967296 else h j) (k + 1) + B % pw (k + 1) = A % pw (k + 1) + r / 9223372036854775808 * pw (k + 1) := by
  rw [nval_set, mod_step, mod_step, pw_succ]
  have h1 := digit_lt A k
  have h2 := digit_lt B k
  have key : r % 4294967296 + digit B k + c = digit A k + r / 9223372036854775808 * 4294967296 := by omega
  generalize r / 9223372036854775808 = q at *
  generalize r % 4294967296 = x at *
  clear hr
  grind
theorem sub_end {h : Nat → Nat} {A B c n : Nat} (hd : Dig h n) (e : nval h n + B = A + c * pw n) (hc : c < 2) (hle : B ≤ A) : nval h n = A - B := by
  have := nval_lt hd
  have : c = 0 ∨ c = 1 := by omega
  rcases this with rfl | rfl
  · simp at e; omega
  · simp at e; omega


theorem Sub_ok (g h : Nat → Nat) (n m : Nat) (hg : Dig g n) (hh : Dig h m) (hn : n ≤ 4398046511104) (hm : m ≤ 4398046511104) :
    ACall Try.prog 24 [raw g n, raw h m] (if nval g n < nval h m then .tup [nat 0, .f (.bool false)] else .tup [nat (nval g n - nval h m), .f (.bool true)]) := by
  have hA := size_nval hg
  have hB := size_nval hh
  have va := view_ok g n hg hn
  have vb := view_ok h m hh hm
  have hc := Compare_ok g h n m hg hh hn hm
  generalize nval g n = A at hA va hc ⊢
  generalize nval h m = B at hB vb hc ⊢
  refine acall_rule env [0, 1, 4, 5, 6, 7, 8, 9, 10, 14, 22, 23, 24, 25, 36] Try.func24 rfl rfl rfl rfl ?_
  conv => whnf
  refine callF hc ⟨.refl _, .refl _, trivial⟩ (by trivial) rfl ?_
  conv => whnf
  refine spl (fun h1 => ?_) (fun h1 => ?_) <;> simp only [decide_eq_true_eq, decide_eq_false_iff_not, Bool.not_eq_true', Bool.not_eq_false', gt_iff_lt, ge_iff_le] at h1
  · rw [if_pos (cmp_lt.1 h1)]
    conv => whnf
    refine ⟨(by (try simp only [true_and, and_true, Nat.sub_zero, Nat.zero_add, Int.toNat_natCast]) <;> omega), ?_⟩
    exact .tup ⟨.nil_nat, .refl _, trivial⟩
  · have hle : B ≤ A := by have := mt cmp_lt.2 h1; omega
    have hsz := size_mono hle
    rw [if_neg (by omega)]
    conv => whnf
    refine callF va ⟨.refl _, trivial⟩ (by trivial) rfl ?_
    conv => whnf
    refine callF vb ⟨.refl _, trivial⟩ (by trivial) rfl ?_
    conv => whnf
    refine ⟨(by (try simp only [true_and, and_true, Nat.sub_zero, Nat.zero_add, Int.toNat_natCast]) <;> omega), ?_⟩
    conv => whnf
    refine loop_rule2 [1, 6, 7, 22, 23, 24] [21] (fun s : (Nat → Nat) × Nat × Nat => ([(1, nat B), (6, .lsl 21 1 1 0 (size A) (some (size A))), (7, .f (.int .u64 s.2.1)), (22, nat A), (23, .f (.int .i64 (size A : Nat))), (24, .f (.int .i64 s.2.2))], [(21, 1, .fa 1 (size A) (fun j => [.int .u32 (s.1 j : Nat)]))])) (fun s => s.2.2 ≤ size A ∧ Dig s.1 s.2.2 ∧ s.2.1 < 2 ∧ nval s.1 s.2.2 + B % pw s.2.2 = A % pw s.2.2 + s.2.1 * pw s.2.2) (fun s => size A - s.2.2) (fun _ => 0, 0, 0) ⟨_, rfl, .refl _⟩ ⟨Nat.zero_le _, fun j hj => absurd hj (by simp), by simp, by simp [pw_zero, Nat.mod_one, nval_zero]⟩ ?_
    rintro ⟨h, c, k⟩ ⟨h1, h2, h3, h4⟩
    simp only at h1 h2 h3 h4 ⊢
    conv => whnf
    refine spl (fun h5 => ?_) (fun h5 => ?_) <;> simp only [decide_eq_true_eq, decide_eq_false_iff_not, Bool.not_eq_true', Bool.not_eq_false', gt_iff_lt, ge_iff_le] at h5
    · conv => whnf
      have hd := digit_lt A k
      have hd2 := digit_lt B k
      refine ⟨(by (try simp only [true_and, and_true, Nat.sub_zero, Nat.zero_add, Int.toNat_natCast]) <;> omega), ?_⟩
      conv => whnf
      refine sumu64 (digit A k) rfl (by omega) ?_
      conv => whnf
      refine modu64 ((digit A k + 18446744073709551616 - c) % 18446744073709551616) (by omega) ?_
      conv => whnf
      refine spl (fun h6 => ?_) (fun h6 => ?_) <;> simp only [decide_eq_true_eq, decide_eq_false_iff_not, Bool.not_eq_true', Bool.not_eq_false', gt_iff_lt, ge_iff_le] at h6
      · conv => whnf
        refine ⟨(by (try simp only [true_and, and_true, Nat.sub_zero, Nat.zero_add, Int.toNat_natCast]) <;> omega), ?_⟩
        conv => whnf
        refine sumu64 (digit B k) rfl (by omega) ?_
        conv => whnf
        refine modu64 ((digit A k + 18446744073709551616 - c - digit B k) % 18446744073709551616) (by omega) ?_
        conv => whnf
        have hstep := sub_step h4 h3 (r := (digit A k + 18446744073709551616 - c - digit B k) % 18446744073709551616) rfl
        generalize hs : (digit A k + 18446744073709551616 - c - digit B k) % 18446744073709551616 = s at hstep ⊢
        refine lowu32 ?_
        conv => whnf
        refine ⟨(by (try simp only [true_and, and_true, Nat.sub_zero, Nat.zero_add, Int.toNat_natCast]) <;> omega), ?_⟩
        conv => whnf
        refine ⟨(by (try simp only [true_and, and_true, Nat.sub_zero, Nat.zero_add, Int.toNat_natCast]) <;> omega), ?_⟩
        conv => whnf
        refine ⟨(by (try simp only [true_and, and_true, Nat.sub_zero, Nat.zero_add, Int.toNat_natCast]) <;> omega), ?_⟩
        conv => whnf
        refine shr63 ?_
        conv => whnf
        refine sumi64 (k + 1) (by omega) (by omega) ?_
        conv => whnf
        exact ⟨(fun j => if j = k then s % 4294967296 else h j, s / 9223372036854775808, k + 1), _, rfl, ⟨⟨rfl, rfl⟩, .set (by simp) rfl, trivial⟩, ⟨by simp only; omega, Dig_set1 h2 (Nat.mod_lt _ (by decide)), by simp only; omega, hstep⟩, by simp only; omega⟩
      · conv => whnf
        have hz : digit B k = 0 := digit_zero_of_size (by omega)
        rw [show digit A k + 18446744073709551616 - c = digit A k + 18446744073709551616 - c - digit B k by omega]
        have hstep := sub_step h4 h3 (r := (digit A k + 18446744073709551616 - c - digit B k) % 18446744073709551616) rfl
        generalize hs : (digit A k + 18446744073709551616 - c - digit B k) % 18446744073709551616 = s at hstep ⊢
        refine lowu32 ?_
        conv => whnf
        refine ⟨(by (try simp only [true_and, and_true, Nat.sub_zero, Nat.zero_add, Int.toNat_natCast]) <;> omega), ?_⟩
        conv => whnf
        refine ⟨(by (try simp only [true_and, and_true, Nat.sub_zero, Nat.zero_add, Int.toNat_natCast]) <;> omega), ?_⟩
        conv => whnf
        refine ⟨(by (try simp only [true_and, and_true, Nat.sub_zero, Nat.zero_add, Int.toNat_natCast]) <;> omega), ?_⟩
        conv => whnf
        refine shr63 ?_
        conv => whnf
        refine sumi64 (k + 1) (by omega) (by omega) ?_
        conv => whnf
        exact ⟨(fun j => if j = k then s % 4294967296 else h j, s / 9223372036854775808, k + 1), _, rfl, ⟨⟨rfl, rfl⟩, .set (by simp) rfl, trivial⟩, ⟨by simp only; omega, Dig_set1 h2 (Nat.mod_lt _ (by decide)), by simp only; omega, hstep⟩, by simp only; omega⟩
    · conv => whnf
      have hk : k = size A := by omega
      subst hk
      rw [mod_size (Nat.le_refl _), mod_size hsz] at h4
      have hS := sub_end h2 h4 h3 hle
      have hv := view_ok _ (size A) h2 (by omega)
      rw [hS] at hv
      refine callF hv ⟨.raw_refl, trivial⟩ (by (try simp only [true_and, and_true, Nat.sub_zero, Nat.zero_add, Int.toNat_natCast]) <;> omega) rfl ?_
      conv => whnf
      refine ⟨(by (try simp only [true_and, and_true, Nat.sub_zero, Nat.zero_add, Int.toNat_natCast]) <;> omega), ?_⟩
      exact .refl _
end Go.Abs
