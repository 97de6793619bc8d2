/- The laws of natural numbers, as contracts: Order. -/
import Derived.Test.YtmlhfccpnehaeaaAbsL2
import Derived.Test.YtmlhfccpnehaeaaAbsK8
set_option autoImplicit false
set_option maxHeartbeats 4000000
set_option linter.unusedVariables false
set_option linter.unusedSimpArgs false
namespace Go.Abs
open Go Go.Proofs

theorem cmp_of_lt {A B : Nat} (h : A < B) : cmp A B = -1 := if_pos h
theorem cmp_of_eq {A B : Nat} (h : A = B) : cmp A B = 0 := by unfold cmp; rw [if_neg (by omega), if_pos h]
theorem cmp_of_gt {A B : Nat} (h : B < A) : cmp A B = 1 := by unfold cmp; rw [if_neg (by omega), if_neg (by omega)]
theorem Compare_nn (A B : Nat) (hA : size A ≤ 4398046511104) (hB : size B ≤ 4398046511104) : ACall Try.prog 22 [nat A, nat B] (.f (.int .i64 (cmp A B))) := by
  have := Compare_ok (digit A) (digit B) (size A) (size B) (digit_Dig _ _) (digit_Dig _ _) hA hB
  rw [nval_digit_size, nval_digit_size] at this; exact this


theorem NaturalOrder_ok (g h f : Nat → Nat) (n m k : Nat) (hg : Dig g n) (hh : Dig h m) (hf : Dig f k) (hn : n ≤ 1099511627776) (hm : m ≤ 1099511627776) (hk : k ≤ 1099511627776) :
    ACall Try.prog 9 [raw g n, raw h m, raw f k] (.f (.bool true)) := by
  have hA := size_nval hg
  have hB := size_nval hh
  have hC := size_nval hf
  have c1 := Compare_ok g h n m hg hh (by omega) (by omega)
  have c2 := Compare_ok h g m n hh hg (by omega) (by omega)
  have s1 := Sub_ok g h n m hg hh (by omega) (by omega)
  have a1 := Add_ok g f n k hg hf (by omega) (by omega)
  have a2 := Add_ok h f m k hh hf (by omega) (by omega)
  have sac := size_add (N := 1099511627776) (Nat.le_trans hA hn) (Nat.le_trans hC hk)
  have sbc := size_add (N := 1099511627776) (Nat.le_trans hB hm) (Nat.le_trans hC hk)
  have mac := size_mul (Nat.le_trans hA hn) (Nat.le_trans hC hk)
  have mbc := size_mul (Nat.le_trans hB hm) (Nat.le_trans hC hk)
  have c3 := Compare_nn (nval g n + nval f k) (nval h m + nval f k) (by omega) (by omega)
  have b1 := Bits_ok f k hf (by omega)
  have m1 := Mul_ok g f n k hg hf (by omega)
  have m2 := Mul_ok h f m k hh hf (by omega)
  have c4 : 0 < nval f k → ACall Try.prog 22 [nat (nval g n * nval f k), nat (nval h m * nval f k)] (.f (.int .i64 (cmp (nval g n) (nval h m)))) := by
    intro hp
    have := Compare_nn (nval g n * nval f k) (nval h m * nval f k) (by omega) (by omega)
    have e : cmp (nval g n * nval f k) (nval h m * nval f k) = cmp (nval g n) (nval h m) := by
      rcases Nat.lt_trichotomy (nval g n) (nval h m) with h | h | h
      · rw [cmp_of_lt h, cmp_of_lt (Nat.mul_lt_mul_of_pos_right h hp)]
      · rw [cmp_of_eq h, cmp_of_eq (by rw [h])]
      · rw [cmp_of_gt h, cmp_of_gt (Nat.mul_lt_mul_of_pos_right h hp)]
    rwa [e] at this
  rcases Nat.lt_trichotomy (nval g n) (nval h m) with hlt | hlt | hlt
  · rw [cmp_of_lt hlt] at c1 c4
    rw [cmp_of_gt hlt] at c2
    rw [if_pos hlt] at s1
    rw [cmp_of_lt (by omega)] at c3
    refine acall_rule env [0, 1, 2, 6, 7, 9, 45] Try.func9 rfl rfl rfl rfl ?_
    conv => whnf
    refine callF c1 ⟨.refl _, .refl _, trivial⟩ (by trivial) rfl ?_
    conv => whnf
    refine callF s1 ⟨.refl _, .refl _, trivial⟩ (by trivial) rfl ?_
    conv => whnf
    refine callF awake_ok trivial (by trivial) rfl ?_
    conv => whnf
    refine callF c2 ⟨.refl _, .refl _, trivial⟩ (by trivial) rfl ?_
    conv => whnf
    refine fit64 (by decide) ?_
    conv => whnf
    refine callF a1 ⟨.refl _, .refl _, trivial⟩ (by trivial) rfl ?_
    conv => whnf
    refine callF a2 ⟨.refl _, .refl _, trivial⟩ (by trivial) rfl ?_
    conv => whnf
    refine callF c3 ⟨.refl _, .refl _, trivial⟩ (by trivial) rfl ?_
    conv => whnf
    refine callF b1 ⟨.refl _, trivial⟩ (by trivial) rfl ?_
    conv => whnf
    refine spl (fun hc0 => ?_) (fun hc0 => ?_) <;> simp only [decide_eq_true_eq, decide_eq_false_iff_not, Bool.not_eq_true', Bool.not_eq_false', gt_iff_lt, ge_iff_le] at hc0
    · conv => whnf
      refine ⟨(by (try simp only [true_and, and_true, Nat.sub_zero, Nat.zero_add, Int.toNat_natCast]) <;> omega), ?_⟩
      exact .refl _
    have hC0 : 0 < nval f k := by
      rcases Nat.eq_zero_or_pos (nval f k) with h | h
      · exact absurd (by rw [h]; rfl) hc0
      · exact h
    have c4 := c4 hC0
    conv => whnf
    refine callF m1 ⟨.refl _, .refl _, trivial⟩ (by trivial) rfl ?_
    conv => whnf
    refine callF m2 ⟨.refl _, .refl _, trivial⟩ (by trivial) rfl ?_
    conv => whnf
    refine callF c4 ⟨.refl _, .refl _, trivial⟩ (by trivial) rfl ?_
    conv => whnf
    refine ⟨(by (try simp only [true_and, and_true, Nat.sub_zero, Nat.zero_add, Int.toNat_natCast]) <;> omega), ?_⟩
    exact .refl _
  · rw [cmp_of_eq hlt] at c1 c4
    rw [cmp_of_eq hlt.symm] at c2
    rw [if_neg (by omega)] at s1
    rw [cmp_of_eq (by omega)] at c3
    refine acall_rule env [0, 1, 2, 6, 7, 9, 45] Try.func9 rfl rfl rfl rfl ?_
    conv => whnf
    refine callF c1 ⟨.refl _, .refl _, trivial⟩ (by trivial) rfl ?_
    conv => whnf
    refine callF s1 ⟨.refl _, .refl _, trivial⟩ (by trivial) rfl ?_
    conv => whnf
    refine callF awake_ok trivial (by trivial) rfl ?_
    conv => whnf
    refine callF c2 ⟨.refl _, .refl _, trivial⟩ (by trivial) rfl ?_
    conv => whnf
    refine fit64 (by decide) ?_
    conv => whnf
    refine callF a1 ⟨.refl _, .refl _, trivial⟩ (by trivial) rfl ?_
    conv => whnf
    refine callF a2 ⟨.refl _, .refl _, trivial⟩ (by trivial) rfl ?_
    conv => whnf
    refine callF c3 ⟨.refl _, .refl _, trivial⟩ (by trivial) rfl ?_
    conv => whnf
    refine callF b1 ⟨.refl _, trivial⟩ (by trivial) rfl ?_
    conv => whnf
    refine spl (fun hc0 => ?_) (fun hc0 => ?_) <;> simp only [decide_eq_true_eq, decide_eq_false_iff_not, Bool.not_eq_true', Bool.not_eq_false', gt_iff_lt, ge_iff_le] at hc0
    · conv => whnf
      refine ⟨(by (try simp only [true_and, and_true, Nat.sub_zero, Nat.zero_add, Int.toNat_natCast]) <;> omega), ?_⟩
      exact .refl _
    have hC0 : 0 < nval f k := by
      rcases Nat.eq_zero_or_pos (nval f k) with h | h
      · exact absurd (by rw [h]; rfl) hc0
      · exact h
    have c4 := c4 hC0
    conv => whnf
    refine callF m1 ⟨.refl _, .refl _, trivial⟩ (by trivial) rfl ?_
    conv => whnf
    refine callF m2 ⟨.refl _, .refl _, trivial⟩ (by trivial) rfl ?_
    conv => whnf
    refine callF c4 ⟨.refl _, .refl _, trivial⟩ (by trivial) rfl ?_
    conv => whnf
    refine ⟨(by (try simp only [true_and, and_true, Nat.sub_zero, Nat.zero_add, Int.toNat_natCast]) <;> omega), ?_⟩
    exact .refl _
  · rw [cmp_of_gt hlt] at c1 c4
    rw [cmp_of_lt hlt] at c2
    rw [if_neg (by omega)] at s1
    rw [cmp_of_gt (by omega)] at c3
    refine acall_rule env [0, 1, 2, 6, 7, 9, 45] Try.func9 rfl rfl rfl rfl ?_
    conv => whnf
    refine callF c1 ⟨.refl _, .refl _, trivial⟩ (by trivial) rfl ?_
    conv => whnf
    refine callF s1 ⟨.refl _, .refl _, trivial⟩ (by trivial) rfl ?_
    conv => whnf
    refine callF awake_ok trivial (by trivial) rfl ?_
    conv => whnf
    refine callF c2 ⟨.refl _, .refl _, trivial⟩ (by trivial) rfl ?_
    conv => whnf
    refine fit64 (by decide) ?_
    conv => whnf
    refine callF a1 ⟨.refl _, .refl _, trivial⟩ (by trivial) rfl ?_
    conv => whnf
    refine callF a2 ⟨.refl _, .refl _, trivial⟩ (by trivial) rfl ?_
    conv => whnf
    refine callF c3 ⟨.refl _, .refl _, trivial⟩ (by trivial) rfl ?_
    conv => whnf
    refine callF b1 ⟨.refl _, trivial⟩ (by trivial) rfl ?_
    conv => whnf
    refine spl (fun hc0 => ?_) (fun hc0 => ?_) <;> simp only [decide_eq_true_eq, decide_eq_false_iff_not, Bool.not_eq_true', Bool.not_eq_false', gt_iff_lt, ge_iff_le] at hc0
    · conv => whnf
      refine ⟨(by (try simp only [true_and, and_true, Nat.sub_zero, Nat.zero_add, Int.toNat_natCast]) <;> omega), ?_⟩
      exact .refl _
    have hC0 : 0 < nval f k := by
      rcases Nat.eq_zero_or_pos (nval f k) with h | h
      · exact absurd (by rw [h]; rfl) hc0
      · exact h
    have c4 := c4 hC0
    conv => whnf
    refine callF m1 ⟨.refl _, .refl _, trivial⟩ (by trivial) rfl ?_
    conv => whnf
    refine callF m2 ⟨.refl _, .refl _, trivial⟩ (by trivial) rfl ?_
    conv => whnf
    refine callF c4 ⟨.refl _, .refl _, trivial⟩ (by trivial) rfl ?_
    conv => whnf
    refine ⟨(by (try simp only [true_and, and_true, Nat.sub_zero, Nat.zero_add, Int.toNat_natCast]) <;> omega), ?_⟩
    exact .refl _
end Go.Abs
