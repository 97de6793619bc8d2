/- Natural numbers: Len32, Bits. -/
import Derived.Test.YtmlhfccpnehaeaaAbsK1
set_option autoImplicit false
set_option maxHeartbeats 4000000
set_option linter.unusedVariables false
set_option linter.unusedSimpArgs false
namespace Go.Abs
open Go Go.Proofs

def bitlen (N : Nat) : Nat := if N = 0 then 0 else N.log2 + 1
theorem bitlen_le {N k : Nat} (h : N < 2 ^ k) : bitlen N ≤ k := by
  unfold bitlen; split
  · omega
  · rename_i h0; have := (Nat.log2_lt h0).2 h; omega
theorem lt_bitlen {N k : Nat} (h : 2 ^ k ≤ N) : k < bitlen N := by
  unfold bitlen
  have : 0 < 2 ^ k := Nat.two_pow_pos k
  rw [if_neg (by omega)]
  have := (Nat.le_log2 (by omega)).2 h; omega
theorem bitlen_eq {N k : Nat} (h1 : 2 ^ k ≤ N) (h2 : N < 2 ^ (k + 1)) : bitlen N = k + 1 := by
  have := bitlen_le h2; have := lt_bitlen h1; omega
theorem bitlen_div {N : Nat} (k : Nat) (h : 0 < N / 2 ^ k) : bitlen N = bitlen (N / 2 ^ k) + k := by
  have h0 : N / 2 ^ k ≠ 0 := by omega
  have e : bitlen (N / 2 ^ k) = (N / 2 ^ k).log2 + 1 := by unfold bitlen; rw [if_neg h0]
  have h1 := Nat.log2_self_le h0
  have h2 := Nat.lt_log2_self (n := N / 2 ^ k)
  rw [e, show (N / 2 ^ k).log2 + 1 + k = ((N / 2 ^ k).log2 + k) + 1 by omega]
  refine bitlen_eq ?_ ?_
  · rw [Nat.pow_add]; exact Nat.le_trans (Nat.mul_le_mul_right _ h1) (Nat.div_mul_le_self _ _)
  · rw [show (N / 2 ^ k).log2 + k + 1 = (N / 2 ^ k).log2 + 1 + k by omega, Nat.pow_add]
    exact (Nat.div_lt_iff_lt_mul (Nat.two_pow_pos k)).1 h2


theorem Len32_ok (x : Nat) (hx : x < 4294967296) : ACall Try.prog 47 [.f (.int .u32 x)] (.f (.int .i64 (bitlen x))) := by
  refine acall_rule env [0, 2, 4, 8] Try.func47 rfl rfl rfl rfl ?_
  conv => whnf
  refine spl (fun h1 => ?_) (fun h1 => ?_) <;> simp only [decide_eq_true_eq, decide_eq_false_iff_not, Bool.not_eq_true', Bool.not_eq_false', gt_iff_lt, ge_iff_le] at h1
  · conv => whnf
    refine ⟨(by (try simp only [true_and, and_true, Nat.sub_zero, Nat.zero_add, Int.toNat_natCast]) <;> omega), ?_⟩
    conv => whnf
    refine shrN (n := 16) rfl (by decide) ?_
    conv => whnf
    have e1 := bitlen_div (N := x) 16 (by omega)
    refine spl (fun h2 => ?_) (fun h2 => ?_) <;> simp only [decide_eq_true_eq, decide_eq_false_iff_not, Bool.not_eq_true', Bool.not_eq_false', gt_iff_lt, ge_iff_le] at h2
    · have e2 := bitlen_div (N := x / 2 ^ 16) 8 (by omega)
      conv => whnf
      refine ⟨(by (try simp only [true_and, and_true, Nat.sub_zero, Nat.zero_add, Int.toNat_natCast]) <;> omega), ?_⟩
      conv => whnf
      refine shrN (n := 8) rfl (by decide) ?_
      conv => whnf
      refine fit64 (by omega) ?_
      conv => whnf
      have hx8 : x / 2 ^ 16 / 2 ^ 8 < 256 := by omega
      have hle := bitlen_le (N := x / 2 ^ 16 / 2 ^ 8) (k := 8) hx8
      have hm : x / 2 ^ 16 / 2 ^ 8 % 256 = x / 2 ^ 16 / 2 ^ 8 := Nat.mod_eq_of_lt hx8
      conv => whnf
      refine lowu8 ?_
      conv => whnf
      rw [hm]
      refine ⟨⟨Int.natCast_nonneg _, Int.ofNat_lt.2 (Nat.lt_of_lt_of_le hx8 (by decide +kernel))⟩, ?_⟩
      conv => whnf
      refine sumi64 (bitlen (x / 2 ^ 16 / 2 ^ 8)) ?_ (by omega) ?_
      conv => whnf
      · clear hm hle
        generalize x / 2 ^ 16 / 2 ^ 8 = y at hx8
        revert hx8; revert y
        decide +kernel
      refine sumi64 (bitlen x) (by omega) (by omega) ?_
      conv => whnf
      refine ⟨(by (try simp only [true_and, and_true, Nat.sub_zero, Nat.zero_add, Int.toNat_natCast]) <;> omega), ?_⟩
      exact .refl _
    · have hx8 : x / 2 ^ 16 < 256 := by omega
      have hle := bitlen_le (N := x / 2 ^ 16) (k := 8) hx8
      have hm : x / 2 ^ 16 % 256 = x / 2 ^ 16 := Nat.mod_eq_of_lt hx8
      conv => whnf
      refine lowu8 ?_
      conv => whnf
      rw [hm]
      refine ⟨⟨Int.natCast_nonneg _, Int.ofNat_lt.2 (Nat.lt_of_lt_of_le hx8 (by decide +kernel))⟩, ?_⟩
      conv => whnf
      refine sumi64 (bitlen (x / 2 ^ 16)) ?_ (by omega) ?_
      conv => whnf
      · clear hm hle
        generalize x / 2 ^ 16 = y at hx8
        revert hx8; revert y
        decide +kernel
      refine sumi64 (bitlen x) (by omega) (by omega) ?_
      conv => whnf
      refine ⟨(by (try simp only [true_and, and_true, Nat.sub_zero, Nat.zero_add, Int.toNat_natCast]) <;> omega), ?_⟩
      exact .refl _
  · conv => whnf
    refine spl (fun h2 => ?_) (fun h2 => ?_) <;> simp only [decide_eq_true_eq, decide_eq_false_iff_not, Bool.not_eq_true', Bool.not_eq_false', gt_iff_lt, ge_iff_le] at h2
    · have e2 := bitlen_div (N := x) 8 (by omega)
      conv => whnf
      refine ⟨(by (try simp only [true_and, and_true, Nat.sub_zero, Nat.zero_add, Int.toNat_natCast]) <;> omega), ?_⟩
      conv => whnf
      refine shrN (n := 8) rfl (by decide) ?_
      conv => whnf
      refine fit64 (by omega) ?_
      conv => whnf
      have hx8 : x / 2 ^ 8 < 256 := by omega
      have hle := bitlen_le (N := x / 2 ^ 8) (k := 8) hx8
      have hm : x / 2 ^ 8 % 256 = x / 2 ^ 8 := Nat.mod_eq_of_lt hx8
      conv => whnf
      refine lowu8 ?_
      conv => whnf
      rw [hm]
      refine ⟨⟨Int.natCast_nonneg _, Int.ofNat_lt.2 (Nat.lt_of_lt_of_le hx8 (by decide +kernel))⟩, ?_⟩
      conv => whnf
      refine sumi64 (bitlen (x / 2 ^ 8)) ?_ (by omega) ?_
      conv => whnf
      · clear hm hle
        generalize x / 2 ^ 8 = y at hx8
        revert hx8; revert y
        decide +kernel
      refine sumi64 (bitlen x) (by omega) (by omega) ?_
      conv => whnf
      refine ⟨(by (try simp only [true_and, and_true, Nat.sub_zero, Nat.zero_add, Int.toNat_natCast]) <;> omega), ?_⟩
      exact .refl _
    · have hx8 : x < 256 := by omega
      have hle := bitlen_le (N := x) (k := 8) hx8
      have hm : x % 256 = x := Nat.mod_eq_of_lt hx8
      conv => whnf
      refine lowu8 ?_
      conv => whnf
      rw [hm]
      refine ⟨⟨Int.natCast_nonneg _, Int.ofNat_lt.2 (Nat.lt_of_lt_of_le hx8 (by decide +kernel))⟩, ?_⟩
      conv => whnf
      refine sumi64 (bitlen (x)) ?_ (by omega) ?_
      conv => whnf
      · clear hm hle
        generalize x = y at hx8
        revert hx8; revert y
        decide +kernel
      refine sumi64 (bitlen x) (by omega) (by omega) ?_
      conv => whnf
      refine ⟨(by (try simp only [true_and, and_true, Nat.sub_zero, Nat.zero_add, Int.toNat_natCast]) <;> omega), ?_⟩
      exact .refl _

theorem bitlen_size {N n : Nat} (h : size N = n + 1) : bitlen N = 32 * n + bitlen (digit N n) := by
  have h1 := lt_pw_size N; rw [h, pw_succ] at h1
  have h2 := pw_size_le (N := N) (k := n) (by omega)
  have h3 : 0 < N / pw n := Nat.div_pos h2 (pw_pos n)
  have h4 : N / pw n < 4294967296 := by rw [Nat.div_lt_iff_lt_mul (pw_pos n), Nat.mul_comm]; exact h1
  rw [digit, Nat.mod_eq_of_lt h4]
  rw [pw_two] at h3 ⊢
  have := bitlen_div (32 * n) h3
  omega

theorem Bits_ok (g : Nat → Nat) (n : Nat) (hg : Dig g n) (hn : n ≤ 4398046511104) : ACall Try.prog 32 [raw g n] (.f (.int .i64 (bitlen (nval g n)))) := by
  have hA := size_nval hg
  have va := view_ok g n hg hn
  generalize nval g n = A at hA va ⊢
  refine acall_rule env [0, 2, 7] Try.func32 rfl rfl rfl rfl ?_
  conv => whnf
  refine callF va ⟨.refl _, trivial⟩ (by trivial) rfl ?_
  conv => whnf
  refine spl (fun h1 => ?_) (fun h1 => ?_) <;> simp only [decide_eq_true_eq, decide_eq_false_iff_not, Bool.not_eq_true', Bool.not_eq_false', gt_iff_lt, ge_iff_le] at h1
  · have : A = 0 := size_eq_zero.1 (by omega)
    subst this
    conv => whnf
    refine ⟨(by (try simp only [true_and, and_true, Nat.sub_zero, Nat.zero_add, Int.toNat_natCast]) <;> omega), ?_⟩
    exact .refl _
  obtain ⟨k, hk⟩ : ∃ k, size A = k + 1 := ⟨size A - 1, by omega⟩
  have hb := bitlen_size hk
  have hd := digit_lt A k
  have hl := Len32_ok (digit A k) hd
  have hle := bitlen_le (N := digit A k) (k := 32) hd
  conv => whnf
  refine sumi64 k (by omega) (by omega) ?_
  conv => whnf
  refine sumi64 (32 * k) (by omega) (by omega) ?_
  conv => whnf
  refine sumi64 k (by omega) (by omega) ?_
  conv => whnf
  refine ⟨(by (try simp only [true_and, and_true, Nat.sub_zero, Nat.zero_add, Int.toNat_natCast]) <;> omega), ?_⟩
  conv => whnf
  refine callF hl ⟨.refl _, trivial⟩ (by trivial) rfl ?_
  conv => whnf
  refine sumi64 (bitlen A) (by omega) (by omega) ?_
  conv => whnf
  refine ⟨(by (try simp only [true_and, and_true, Nat.sub_zero, Nat.zero_add, Int.toNat_natCast]) <;> omega), ?_⟩
  exact .refl _
end Go.Abs
