/- Contracts of the functions that the law calls, and the logic in which they are proved: part 4. -/
import Derived.Test.YtfcofbchhcojiaaPk3
/- The laws of integers, as contracts: Ring, Sums, Order, Divides, Divisors, Values, Native. -/
set_option autoImplicit false
set_option maxHeartbeats 4000000
set_option maxRecDepth 10000
set_option linter.unusedVariables false
set_option linter.unusedSimpArgs false
namespace Go.Abs
open Go Go.Proofs

theorem isz_ediv (a b : Int) : isz (a / b) ≤ isz a := size_mono (Int.natAbs_ediv_le_natAbs a b)
theorem isz_emod (a b : Int) (hb : b ≠ 0) : isz (a % b) ≤ isz b := by
  have h1 := Int.emod_nonneg a hb
  have h2 := Int.emod_lt a hb
  exact size_mono (by omega)


theorem IntegerSums_ok {x y : AV} {a b : Int} {s t : Nat} (ha : IsI x a s) (hb : IsI y b t) (hs : s ≤ 1099511627776) (ht : t ≤ 1099511627776) :
    ACall Try.prog 4 [x, y] (.f (.bool true)) := by
  have sa := ha.size
  have sb := hb.size
  have sab := isz_add sa sb
  have mab := isz_mul sa sb
  have dab := isz_sub sa sb
  have n1 := iNeg_ok ha (by omega)
  have n2 := rNeg_ok ha (by omega)
  have e1 := rEqual_same (-a) (by rw [isz_neg]; omega)
  have b1 := iAbs_ok ha (by omega)
  have b2 := rAbs_ok ha (by omega)
  have e2 := rEqual_same (a.natAbs : Nat) (by rw [isz_abs]; omega)
  have a1 := iAdd_ok ha hb (by omega) (by omega)
  have a2 := rAdd_ok ha hb (by omega) (by omega)
  have e3 := rEqual_same (a + b) (by omega)
  have s1 := iSub_ok ha hb (by omega) (by omega)
  have s2 := rSub_ok ha hb (by omega) (by omega)
  have e4 := rEqual_same (a - b) (by omega)
  have m1 := iMul_ok ha hb (by omega)
  have m2 := rMul_ok ha hb (by omega)
  have e5 := rEqual_same (a * b) (by omega)
  obtain ⟨na, g, n, _, hg, hn⟩ := ha
  obtain ⟨nb, h, m, _, hh, hm⟩ := hb
  refine acall_rule env [0, 1, 2, 3, 4] Try.func4 rfl rfl rfl rfl ?_
  conv => whnf
  first | refine callF awake2_ok trivial (by trivial) rfl ?_ | ((repeat (refine ⟨by kernel_rfl, ?_⟩; (conv => whnf))); refine callF awake2_ok trivial (by trivial) rfl ?_)
  conv => whnf
  first | refine callF n1 ⟨.refl _, trivial⟩ (by trivial) rfl ?_ | ((repeat (refine ⟨by kernel_rfl, ?_⟩; (conv => whnf))); refine callF n1 ⟨.refl _, trivial⟩ (by trivial) rfl ?_)
  conv => whnf
  first | refine callF n2 ⟨.refl _, trivial⟩ (by trivial) rfl ?_ | ((repeat (refine ⟨by kernel_rfl, ?_⟩; (conv => whnf))); refine callF n2 ⟨.refl _, trivial⟩ (by trivial) rfl ?_)
  conv => whnf
  first | refine callF e1 ⟨.refl _, .refl _, trivial⟩ (by trivial) rfl ?_ | ((repeat (refine ⟨by kernel_rfl, ?_⟩; (conv => whnf))); refine callF e1 ⟨.refl _, .refl _, trivial⟩ (by trivial) rfl ?_)
  conv => whnf
  first | refine callF b1 ⟨.refl _, trivial⟩ (by trivial) rfl ?_ | ((repeat (refine ⟨by kernel_rfl, ?_⟩; (conv => whnf))); refine callF b1 ⟨.refl _, trivial⟩ (by trivial) rfl ?_)
  conv => whnf
  first | refine callF b2 ⟨.refl _, trivial⟩ (by trivial) rfl ?_ | ((repeat (refine ⟨by kernel_rfl, ?_⟩; (conv => whnf))); refine callF b2 ⟨.refl _, trivial⟩ (by trivial) rfl ?_)
  conv => whnf
  first | refine callF e2 ⟨.refl _, .refl _, trivial⟩ (by trivial) rfl ?_ | ((repeat (refine ⟨by kernel_rfl, ?_⟩; (conv => whnf))); refine callF e2 ⟨.refl _, .refl _, trivial⟩ (by trivial) rfl ?_)
  conv => whnf
  first | refine callF a1 ⟨.refl _, .refl _, trivial⟩ (by trivial) rfl ?_ | ((repeat (refine ⟨by kernel_rfl, ?_⟩; (conv => whnf))); refine callF a1 ⟨.refl _, .refl _, trivial⟩ (by trivial) rfl ?_)
  conv => whnf
  first | refine callF a2 ⟨.refl _, .refl _, trivial⟩ (by trivial) rfl ?_ | ((repeat (refine ⟨by kernel_rfl, ?_⟩; (conv => whnf))); refine callF a2 ⟨.refl _, .refl _, trivial⟩ (by trivial) rfl ?_)
  conv => whnf
  first | refine callF e3 ⟨.refl _, .refl _, trivial⟩ (by trivial) rfl ?_ | ((repeat (refine ⟨by kernel_rfl, ?_⟩; (conv => whnf))); refine callF e3 ⟨.refl _, .refl _, trivial⟩ (by trivial) rfl ?_)
  conv => whnf
  first | refine callF s1 ⟨.refl _, .refl _, trivial⟩ (by trivial) rfl ?_ | ((repeat (refine ⟨by kernel_rfl, ?_⟩; (conv => whnf))); refine callF s1 ⟨.refl _, .refl _, trivial⟩ (by trivial) rfl ?_)
  conv => whnf
  first | refine callF s2 ⟨.refl _, .refl _, trivial⟩ (by trivial) rfl ?_ | ((repeat (refine ⟨by kernel_rfl, ?_⟩; (conv => whnf))); refine callF s2 ⟨.refl _, .refl _, trivial⟩ (by trivial) rfl ?_)
  conv => whnf
  first | refine callF e4 ⟨.refl _, .refl _, trivial⟩ (by trivial) rfl ?_ | ((repeat (refine ⟨by kernel_rfl, ?_⟩; (conv => whnf))); refine callF e4 ⟨.refl _, .refl _, trivial⟩ (by trivial) rfl ?_)
  conv => whnf
  first | refine callF m1 ⟨.refl _, .refl _, trivial⟩ (by trivial) rfl ?_ | ((repeat (refine ⟨by kernel_rfl, ?_⟩; (conv => whnf))); refine callF m1 ⟨.refl _, .refl _, trivial⟩ (by trivial) rfl ?_)
  conv => whnf
  first | refine callF m2 ⟨.refl _, .refl _, trivial⟩ (by trivial) rfl ?_ | ((repeat (refine ⟨by kernel_rfl, ?_⟩; (conv => whnf))); refine callF m2 ⟨.refl _, .refl _, trivial⟩ (by trivial) rfl ?_)
  conv => whnf
  first | refine callF e5 ⟨.refl _, .refl _, trivial⟩ (by trivial) rfl ?_ | ((repeat (refine ⟨by kernel_rfl, ?_⟩; (conv => whnf))); refine callF e5 ⟨.refl _, .refl _, trivial⟩ (by trivial) rfl ?_)
  conv => whnf
  (repeat (refine ⟨by kernel_rfl, ?_⟩; (conv => whnf)))
  refine ⟨(by (try simp only [true_and, and_true, Nat.sub_zero, Nat.zero_add, Int.toNat_natCast]) <;> omega), ?_⟩
  exact .refl _

theorem IntegerRing_ok {x y w : AV} {a b c : Int} {s t u : Nat} (ha : IsI x a s) (hb : IsI y b t) (hc : IsI w c u) (hs : s ≤ 1099511627776) (ht : t ≤ 1099511627776) (hu : u ≤ 1099511627776) :
    ACall Try.prog 3 [x, y, w] (.f (.bool true)) := by
  have sa := ha.size
  have sb := hb.size
  have sab := isz_add sa sb
  have mab := isz_mul sa sb
  have sc := hc.size
  have sbc := isz_add sb sc
  have sabc := isz_add sab sc
  have mbc := isz_mul sb sc
  have mabc := isz_mul mab sc
  have mac := isz_mul sa sc
  have mabc2 := isz_mul sa sbc
  have m2 := isz_add mab mac
  have r1 := iAdd_ok ha hb (by omega) (by omega)
  have r2 := iAdd_ok (isI_int (a + b) sab) hc (by omega) (by omega)
  have r3 := iAdd_ok hb hc (by omega) (by omega)
  have r4 := iAdd_ok ha (isI_int (b + c) sbc) (by omega) (by omega)
  rw [← Int.add_assoc] at r4
  have e1 := rEqual_same (a + b + c) (by omega)
  have p1 := iMul_ok ha hb (by omega)
  have p2 := iMul_ok (isI_int (a * b) mab) hc (by omega)
  have p3 := iMul_ok hb hc (by omega)
  have p4 := iMul_ok ha (isI_int (b * c) mbc) (by omega)
  rw [← Int.mul_assoc] at p4
  have e2 := rEqual_same (a * b * c) (by omega)
  have r5 := iAdd_ok hb ha (by omega) (by omega)
  rw [Int.add_comm] at r5
  have e3 := rEqual_same (a + b) (by omega)
  have p5 := iMul_ok hb ha (by omega)
  rw [Int.mul_comm] at p5
  have e4 := rEqual_same (a * b) (by omega)
  have p6 := iMul_ok ha (isI_int (b + c) sbc) (by omega)
  have p7 := iMul_ok ha hc (by omega)
  have r6 := iAdd_ok (isI_int (a * b) mab) (isI_int (a * c) mac) (by omega) (by omega)
  rw [← Int.mul_add] at r6
  have e5 := rEqual_same (a * (b + c)) (by omega)
  have n1 := iNeg_ok ha (by omega)
  have r7 := iAdd_ok ha (isI_int (-a) (by rw [isz_neg]; exact sa)) (by omega) (by omega)
  rw [Int.add_right_neg] at r7
  have f0 := rFromInt_ok 0 (by omega)
  have e6 := rEqual_same 0 (by decide)
  have s1 := iSub_ok (isI_int (a + b) sab) hb (by omega) (by omega)
  rw [Int.add_sub_cancel] at s1
  have n2 := rNorm_ok ha (by omega)
  have e7 := rEqual_same a (by omega)
  obtain ⟨na, g, n, _, hg, hn⟩ := ha
  obtain ⟨nb, h, m, _, hh, hm⟩ := hb
  obtain ⟨nc, f, k, _, hf, hk⟩ := hc
  refine acall_rule env [0, 1, 2, 3, 4, 5, 6, 36] Try.func3 rfl rfl rfl rfl ?_
  conv => whnf
  first | refine callF awake2_ok trivial (by trivial) rfl ?_ | ((repeat (refine ⟨by kernel_rfl, ?_⟩; (conv => whnf))); refine callF awake2_ok trivial (by trivial) rfl ?_)
  conv => whnf
  first | refine callF r1 ⟨.refl _, .refl _, trivial⟩ (by trivial) rfl ?_ | ((repeat (refine ⟨by kernel_rfl, ?_⟩; (conv => whnf))); refine callF r1 ⟨.refl _, .refl _, trivial⟩ (by trivial) rfl ?_)
  conv => whnf
  first | refine callF r2 ⟨.refl _, .refl _, trivial⟩ (by trivial) rfl ?_ | ((repeat (refine ⟨by kernel_rfl, ?_⟩; (conv => whnf))); refine callF r2 ⟨.refl _, .refl _, trivial⟩ (by trivial) rfl ?_)
  conv => whnf
  first | refine callF r3 ⟨.refl _, .refl _, trivial⟩ (by trivial) rfl ?_ | ((repeat (refine ⟨by kernel_rfl, ?_⟩; (conv => whnf))); refine callF r3 ⟨.refl _, .refl _, trivial⟩ (by trivial) rfl ?_)
  conv => whnf
  first | refine callF r4 ⟨.refl _, .refl _, trivial⟩ (by trivial) rfl ?_ | ((repeat (refine ⟨by kernel_rfl, ?_⟩; (conv => whnf))); refine callF r4 ⟨.refl _, .refl _, trivial⟩ (by trivial) rfl ?_)
  conv => whnf
  first | refine callF e1 ⟨.refl _, .refl _, trivial⟩ (by trivial) rfl ?_ | ((repeat (refine ⟨by kernel_rfl, ?_⟩; (conv => whnf))); refine callF e1 ⟨.refl _, .refl _, trivial⟩ (by trivial) rfl ?_)
  conv => whnf
  first | refine callF p1 ⟨.refl _, .refl _, trivial⟩ (by trivial) rfl ?_ | ((repeat (refine ⟨by kernel_rfl, ?_⟩; (conv => whnf))); refine callF p1 ⟨.refl _, .refl _, trivial⟩ (by trivial) rfl ?_)
  conv => whnf
  first | refine callF p2 ⟨.refl _, .refl _, trivial⟩ (by trivial) rfl ?_ | ((repeat (refine ⟨by kernel_rfl, ?_⟩; (conv => whnf))); refine callF p2 ⟨.refl _, .refl _, trivial⟩ (by trivial) rfl ?_)
  conv => whnf
  first | refine callF p3 ⟨.refl _, .refl _, trivial⟩ (by trivial) rfl ?_ | ((repeat (refine ⟨by kernel_rfl, ?_⟩; (conv => whnf))); refine callF p3 ⟨.refl _, .refl _, trivial⟩ (by trivial) rfl ?_)
  conv => whnf
  first | refine callF p4 ⟨.refl _, .refl _, trivial⟩ (by trivial) rfl ?_ | ((repeat (refine ⟨by kernel_rfl, ?_⟩; (conv => whnf))); refine callF p4 ⟨.refl _, .refl _, trivial⟩ (by trivial) rfl ?_)
  conv => whnf
  first | refine callF e2 ⟨.refl _, .refl _, trivial⟩ (by trivial) rfl ?_ | ((repeat (refine ⟨by kernel_rfl, ?_⟩; (conv => whnf))); refine callF e2 ⟨.refl _, .refl _, trivial⟩ (by trivial) rfl ?_)
  conv => whnf
  first | refine callF r1 ⟨.refl _, .refl _, trivial⟩ (by trivial) rfl ?_ | ((repeat (refine ⟨by kernel_rfl, ?_⟩; (conv => whnf))); refine callF r1 ⟨.refl _, .refl _, trivial⟩ (by trivial) rfl ?_)
  conv => whnf
  first | refine callF r5 ⟨.refl _, .refl _, trivial⟩ (by trivial) rfl ?_ | ((repeat (refine ⟨by kernel_rfl, ?_⟩; (conv => whnf))); refine callF r5 ⟨.refl _, .refl _, trivial⟩ (by trivial) rfl ?_)
  conv => whnf
  first | refine callF e3 ⟨.refl _, .refl _, trivial⟩ (by trivial) rfl ?_ | ((repeat (refine ⟨by kernel_rfl, ?_⟩; (conv => whnf))); refine callF e3 ⟨.refl _, .refl _, trivial⟩ (by trivial) rfl ?_)
  conv => whnf
  first | refine callF p1 ⟨.refl _, .refl _, trivial⟩ (by trivial) rfl ?_ | ((repeat (refine ⟨by kernel_rfl, ?_⟩; (conv => whnf))); refine callF p1 ⟨.refl _, .refl _, trivial⟩ (by trivial) rfl ?_)
  conv => whnf
  first | refine callF p5 ⟨.refl _, .refl _, trivial⟩ (by trivial) rfl ?_ | ((repeat (refine ⟨by kernel_rfl, ?_⟩; (conv => whnf))); refine callF p5 ⟨.refl _, .refl _, trivial⟩ (by trivial) rfl ?_)
  conv => whnf
  first | refine callF e4 ⟨.refl _, .refl _, trivial⟩ (by trivial) rfl ?_ | ((repeat (refine ⟨by kernel_rfl, ?_⟩; (conv => whnf))); refine callF e4 ⟨.refl _, .refl _, trivial⟩ (by trivial) rfl ?_)
  conv => whnf
  first | refine callF r3 ⟨.refl _, .refl _, trivial⟩ (by trivial) rfl ?_ | ((repeat (refine ⟨by kernel_rfl, ?_⟩; (conv => whnf))); refine callF r3 ⟨.refl _, .refl _, trivial⟩ (by trivial) rfl ?_)
  conv => whnf
  first | refine callF p6 ⟨.refl _, .refl _, trivial⟩ (by trivial) rfl ?_ | ((repeat (refine ⟨by kernel_rfl, ?_⟩; (conv => whnf))); refine callF p6 ⟨.refl _, .refl _, trivial⟩ (by trivial) rfl ?_)
  conv => whnf
  first | refine callF p1 ⟨.refl _, .refl _, trivial⟩ (by trivial) rfl ?_ | ((repeat (refine ⟨by kernel_rfl, ?_⟩; (conv => whnf))); refine callF p1 ⟨.refl _, .refl _, trivial⟩ (by trivial) rfl ?_)
  conv => whnf
  first | refine callF p7 ⟨.refl _, .refl _, trivial⟩ (by trivial) rfl ?_ | ((repeat (refine ⟨by kernel_rfl, ?_⟩; (conv => whnf))); refine callF p7 ⟨.refl _, .refl _, trivial⟩ (by trivial) rfl ?_)
  conv => whnf
  first | refine callF r6 ⟨.refl _, .refl _, trivial⟩ (by trivial) rfl ?_ | ((repeat (refine ⟨by kernel_rfl, ?_⟩; (conv => whnf))); refine callF r6 ⟨.refl _, .refl _, trivial⟩ (by trivial) rfl ?_)
  conv => whnf
  first | refine callF e5 ⟨.refl _, .refl _, trivial⟩ (by trivial) rfl ?_ | ((repeat (refine ⟨by kernel_rfl, ?_⟩; (conv => whnf))); refine callF e5 ⟨.refl _, .refl _, trivial⟩ (by trivial) rfl ?_)
  conv => whnf
  first | refine callF n1 ⟨.refl _, trivial⟩ (by trivial) rfl ?_ | ((repeat (refine ⟨by kernel_rfl, ?_⟩; (conv => whnf))); refine callF n1 ⟨.refl _, trivial⟩ (by trivial) rfl ?_)
  conv => whnf
  first | refine callF r7 ⟨.refl _, .refl _, trivial⟩ (by trivial) rfl ?_ | ((repeat (refine ⟨by kernel_rfl, ?_⟩; (conv => whnf))); refine callF r7 ⟨.refl _, .refl _, trivial⟩ (by trivial) rfl ?_)
  conv => whnf
  first | refine callF f0 ⟨.refl _, trivial⟩ (by trivial) rfl ?_ | ((repeat (refine ⟨by kernel_rfl, ?_⟩; (conv => whnf))); refine callF f0 ⟨.refl _, trivial⟩ (by trivial) rfl ?_)
  conv => whnf
  first | refine callF e6 ⟨.refl _, .refl _, trivial⟩ (by trivial) rfl ?_ | ((repeat (refine ⟨by kernel_rfl, ?_⟩; (conv => whnf))); refine callF e6 ⟨.refl _, .refl _, trivial⟩ (by trivial) rfl ?_)
  conv => whnf
  first | refine callF r1 ⟨.refl _, .refl _, trivial⟩ (by trivial) rfl ?_ | ((repeat (refine ⟨by kernel_rfl, ?_⟩; (conv => whnf))); refine callF r1 ⟨.refl _, .refl _, trivial⟩ (by trivial) rfl ?_)
  conv => whnf
  first | refine callF s1 ⟨.refl _, .refl _, trivial⟩ (by trivial) rfl ?_ | ((repeat (refine ⟨by kernel_rfl, ?_⟩; (conv => whnf))); refine callF s1 ⟨.refl _, .refl _, trivial⟩ (by trivial) rfl ?_)
  conv => whnf
  first | refine callF n2 ⟨.refl _, trivial⟩ (by trivial) rfl ?_ | ((repeat (refine ⟨by kernel_rfl, ?_⟩; (conv => whnf))); refine callF n2 ⟨.refl _, trivial⟩ (by trivial) rfl ?_)
  conv => whnf
  first | refine callF e7 ⟨.refl _, .refl _, trivial⟩ (by trivial) rfl ?_ | ((repeat (refine ⟨by kernel_rfl, ?_⟩; (conv => whnf))); refine callF e7 ⟨.refl _, .refl _, trivial⟩ (by trivial) rfl ?_)
  conv => whnf
  (repeat (refine ⟨by kernel_rfl, ?_⟩; (conv => whnf)))
  refine ⟨(by (try simp only [true_and, and_true, Nat.sub_zero, Nat.zero_add, Int.toNat_natCast]) <;> omega), ?_⟩
  exact .refl _

theorem IntegerDivides_ok {x y : AV} {a b : Int} {s t : Nat} (ha : IsI x a s) (hb : IsI y b t) (hs : s ≤ 1099511627776) (ht : t ≤ 1099511627776) :
    ACall Try.prog 7 [x, y] (.f (.bool true)) := by
  have sa := ha.size
  have sb := hb.size
  have sab := isz_add sa sb
  have mab := isz_mul sa sb
  have d1 := iDivMod_ok ha hb (by omega) (by omega)
  have d2 := rDivMod_ok ha hb (by omega) (by omega)
  unfold idivRes at d1 d2
  by_cases h0 : b = 0
  · rw [if_pos h0] at d1 d2
    have e0 := rEqual_same 0 (by decide)
    obtain ⟨na, g, n, _, hg, hn⟩ := ha
    obtain ⟨nb, h, m, _, hh, hm⟩ := hb
    refine acall_rule env [0, 1, 2, 3, 4, 5, 6, 7, 8, 9, 10, 43] Try.func7 rfl rfl rfl rfl ?_
    conv => whnf
    first | refine callF d1 ⟨.refl _, .refl _, trivial⟩ (by trivial) rfl ?_ | ((repeat (refine ⟨by kernel_rfl, ?_⟩; (conv => whnf))); refine callF d1 ⟨.refl _, .refl _, trivial⟩ (by trivial) rfl ?_)
    conv => whnf
    first | refine callF d2 ⟨.refl _, .refl _, trivial⟩ (by trivial) rfl ?_ | ((repeat (refine ⟨by kernel_rfl, ?_⟩; (conv => whnf))); refine callF d2 ⟨.refl _, .refl _, trivial⟩ (by trivial) rfl ?_)
    conv => whnf
    first | refine callF awake2_ok trivial (by trivial) rfl ?_ | ((repeat (refine ⟨by kernel_rfl, ?_⟩; (conv => whnf))); refine callF awake2_ok trivial (by trivial) rfl ?_)
    conv => whnf
    first | refine callF e0 ⟨.refl _, .refl _, trivial⟩ (by trivial) rfl ?_ | ((repeat (refine ⟨by kernel_rfl, ?_⟩; (conv => whnf))); refine callF e0 ⟨.refl _, .refl _, trivial⟩ (by trivial) rfl ?_)
    conv => whnf
    first | refine callF e0 ⟨.refl _, .refl _, trivial⟩ (by trivial) rfl ?_ | ((repeat (refine ⟨by kernel_rfl, ?_⟩; (conv => whnf))); refine callF e0 ⟨.refl _, .refl _, trivial⟩ (by trivial) rfl ?_)
    conv => whnf
    (repeat (refine ⟨by kernel_rfl, ?_⟩; (conv => whnf)))
    refine ⟨(by (try simp only [true_and, and_true, Nat.sub_zero, Nat.zero_add, Int.toNat_natCast]) <;> omega), ?_⟩
    exact .refl _
  · rw [if_neg h0] at d1 d2
    have sq := Nat.le_trans (isz_ediv a b) sa
    have sr := Nat.le_trans (isz_emod a b h0) sb
    have e1 := rEqual_same (a / b) (by omega)
    have e2 := rEqual_same (a % b) (by omega)
    have p1 := iMul_ok (isI_int (a / b) sq) hb (by omega)
    have sp := isz_mul sq sb
    have r1 := iAdd_ok (isI_int (a / b * b) sp) (isI_int (a % b) sr) (by omega) (by omega)
    have e : a / b * b + a % b = a := by rw [Int.mul_comm]; exact Int.mul_ediv_add_emod a b
    rw [e] at r1
    have n1 := rNorm_ok ha (by omega)
    have e3 := rEqual_same a (by omega)
    have g1 := iSign_ok (isI_int (a % b) sr) (by omega)
    have b1 := iAbs_ok hb (by omega)
    have c1 := iCompare_ok (isI_int (a % b) sr) (isI_int (b.natAbs : Nat) (by rw [isz_abs]; exact sb)) (by omega) (by omega)
    have h1 := Int.emod_nonneg a h0
    have h2 := Int.emod_lt a h0
    have hsg : 0 ≤ sgn (a % b) := by unfold sgn; repeat' split
                                     all_goals omega
    rw [show icmp (a % b) (b.natAbs : Nat) = -1 from if_pos (by omega)] at c1
    generalize sgn (a % b) = sg at *
    obtain ⟨na, g, n, _, hg, hn⟩ := ha
    obtain ⟨nb, h, m, _, hh, hm⟩ := hb
    refine acall_rule env [0, 1, 2, 3, 4, 5, 6, 7, 8, 9, 10, 43] Try.func7 rfl rfl rfl rfl ?_
    conv => whnf
    first | refine callF d1 ⟨.refl _, .refl _, trivial⟩ (by trivial) rfl ?_ | ((repeat (refine ⟨by kernel_rfl, ?_⟩; (conv => whnf))); refine callF d1 ⟨.refl _, .refl _, trivial⟩ (by trivial) rfl ?_)
    conv => whnf
    first | refine callF d2 ⟨.refl _, .refl _, trivial⟩ (by trivial) rfl ?_ | ((repeat (refine ⟨by kernel_rfl, ?_⟩; (conv => whnf))); refine callF d2 ⟨.refl _, .refl _, trivial⟩ (by trivial) rfl ?_)
    conv => whnf
    first | refine callF awake2_ok trivial (by trivial) rfl ?_ | ((repeat (refine ⟨by kernel_rfl, ?_⟩; (conv => whnf))); refine callF awake2_ok trivial (by trivial) rfl ?_)
    conv => whnf
    first | refine callF e1 ⟨.refl _, .refl _, trivial⟩ (by trivial) rfl ?_ | ((repeat (refine ⟨by kernel_rfl, ?_⟩; (conv => whnf))); refine callF e1 ⟨.refl _, .refl _, trivial⟩ (by trivial) rfl ?_)
    conv => whnf
    first | refine callF e2 ⟨.refl _, .refl _, trivial⟩ (by trivial) rfl ?_ | ((repeat (refine ⟨by kernel_rfl, ?_⟩; (conv => whnf))); refine callF e2 ⟨.refl _, .refl _, trivial⟩ (by trivial) rfl ?_)
    conv => whnf
    first | refine callF p1 ⟨.refl _, .refl _, trivial⟩ (by trivial) rfl ?_ | ((repeat (refine ⟨by kernel_rfl, ?_⟩; (conv => whnf))); refine callF p1 ⟨.refl _, .refl _, trivial⟩ (by trivial) rfl ?_)
    conv => whnf
    first | refine callF r1 ⟨.refl _, .refl _, trivial⟩ (by trivial) rfl ?_ | ((repeat (refine ⟨by kernel_rfl, ?_⟩; (conv => whnf))); refine callF r1 ⟨.refl _, .refl _, trivial⟩ (by trivial) rfl ?_)
    conv => whnf
    first | refine callF n1 ⟨.refl _, trivial⟩ (by trivial) rfl ?_ | ((repeat (refine ⟨by kernel_rfl, ?_⟩; (conv => whnf))); refine callF n1 ⟨.refl _, trivial⟩ (by trivial) rfl ?_)
    conv => whnf
    first | refine callF e3 ⟨.refl _, .refl _, trivial⟩ (by trivial) rfl ?_ | ((repeat (refine ⟨by kernel_rfl, ?_⟩; (conv => whnf))); refine callF e3 ⟨.refl _, .refl _, trivial⟩ (by trivial) rfl ?_)
    conv => whnf
    first | refine callF g1 ⟨.refl _, trivial⟩ (by trivial) rfl ?_ | ((repeat (refine ⟨by kernel_rfl, ?_⟩; (conv => whnf))); refine callF g1 ⟨.refl _, trivial⟩ (by trivial) rfl ?_)
    conv => whnf
    refine splT (by simp only [decide_eq_true_eq, decide_eq_false_iff_not, Bool.not_eq_true', Bool.not_eq_false', gt_iff_lt, ge_iff_le] <;> omega) ?_
    conv => whnf
    first | refine callF b1 ⟨.refl _, trivial⟩ (by trivial) rfl ?_ | ((repeat (refine ⟨by kernel_rfl, ?_⟩; (conv => whnf))); refine callF b1 ⟨.refl _, trivial⟩ (by trivial) rfl ?_)
    conv => whnf
    first | refine callF c1 ⟨.refl _, .refl _, trivial⟩ (by trivial) rfl ?_ | ((repeat (refine ⟨by kernel_rfl, ?_⟩; (conv => whnf))); refine callF c1 ⟨.refl _, .refl _, trivial⟩ (by trivial) rfl ?_)
    conv => whnf
    (repeat (refine ⟨by kernel_rfl, ?_⟩; (conv => whnf)))
    refine ⟨(by (try simp only [true_and, and_true, Nat.sub_zero, Nat.zero_add, Int.toNat_natCast]) <;> omega), ?_⟩
    exact .refl _

theorem IntegerOrder_ok {x y w : AV} {a b c : Int} {s t u : Nat} (ha : IsI x a s) (hb : IsI y b t) (hc : IsI w c u) (hs : s ≤ 1099511627776) (ht : t ≤ 1099511627776) (hu : u ≤ 1099511627776) :
    ACall Try.prog 5 [x, y, w] (.f (.bool true)) := by
  have sa := ha.size
  have sb := hb.size
  have sab := isz_add sa sb
  have mab := isz_mul sa sb
  have sc := hc.size
  have sac := isz_add sa sc
  have sbc := isz_add sb sc
  have dab := isz_sub sa sb
  have c1 := iCompare_ok ha hb (by omega) (by omega)
  have s1 := iSub_ok ha hb (by omega) (by omega)
  have g1 := iSign_ok (isI_int (a - b) dab) (by omega)
  rw [icmp_sgn] at g1
  have c2 := iCompare_ok hb ha (by omega) (by omega)
  have r1 := iAdd_ok ha hc (by omega) (by omega)
  have r2 := iAdd_ok hb hc (by omega) (by omega)
  have c3 := iCompare_ok (isI_int (a + c) sac) (isI_int (b + c) sbc) (by omega) (by omega)
  have c4 := iCompare_ok hb hc (by omega) (by omega)
  have c5 := iCompare_ok ha hc (by omega) (by omega)
  obtain ⟨na, g, n, _, hg, hn⟩ := ha
  obtain ⟨nb, h, m, _, hh, hm⟩ := hb
  obtain ⟨nc, f, k, _, hf, hk⟩ := hc
  generalize ival na (nval g n) = a at *
  generalize ival nb (nval h m) = b at *
  generalize ival nc (nval f k) = c at *
  have e3 : icmp (a + c) (b + c) = icmp a b := by unfold icmp; repeat' split
                                                  all_goals omega
  rw [e3] at c3
  have e2 : icmp b a = -icmp a b := by unfold icmp; repeat' split
                                       all_goals omega
  rw [e2] at c2
  have hx : -1 ≤ icmp a b ∧ icmp a b ≤ 1 := by unfold icmp; repeat' split
                                               all_goals omega
  have h4 : icmp b c ≤ 0 → icmp a b ≤ 0 → icmp a c ≤ 0 := by unfold icmp; repeat' split
                                                             all_goals omega
  generalize icmp a b = p at *
  generalize icmp b c = q at *
  generalize icmp a c = r at *
  refine acall_rule env [0, 1, 2, 3, 4, 5, 6, 7, 39] Try.func5 rfl rfl rfl rfl ?_
  conv => whnf
  first | refine callF c1 ⟨.refl _, .refl _, trivial⟩ (by trivial) rfl ?_ | ((repeat (refine ⟨by kernel_rfl, ?_⟩; (conv => whnf))); refine callF c1 ⟨.refl _, .refl _, trivial⟩ (by trivial) rfl ?_)
  conv => whnf
  first | refine callF awake2_ok trivial (by trivial) rfl ?_ | ((repeat (refine ⟨by kernel_rfl, ?_⟩; (conv => whnf))); refine callF awake2_ok trivial (by trivial) rfl ?_)
  conv => whnf
  first | refine callF s1 ⟨.refl _, .refl _, trivial⟩ (by trivial) rfl ?_ | ((repeat (refine ⟨by kernel_rfl, ?_⟩; (conv => whnf))); refine callF s1 ⟨.refl _, .refl _, trivial⟩ (by trivial) rfl ?_)
  conv => whnf
  first | refine callF g1 ⟨.refl _, trivial⟩ (by trivial) rfl ?_ | ((repeat (refine ⟨by kernel_rfl, ?_⟩; (conv => whnf))); refine callF g1 ⟨.refl _, trivial⟩ (by trivial) rfl ?_)
  conv => whnf
  refine splF (by simp only [decide_eq_true_eq, decide_eq_false_iff_not, Bool.not_eq_true', Bool.not_eq_false', gt_iff_lt, ge_iff_le] <;> omega) ?_
  conv => whnf
  first | refine callF c2 ⟨.refl _, .refl _, trivial⟩ (by trivial) rfl ?_ | ((repeat (refine ⟨by kernel_rfl, ?_⟩; (conv => whnf))); refine callF c2 ⟨.refl _, .refl _, trivial⟩ (by trivial) rfl ?_)
  conv => whnf
  refine fit64 (by omega) ?_
  conv => whnf
  refine splF (by simp only [decide_eq_true_eq, decide_eq_false_iff_not, Bool.not_eq_true', Bool.not_eq_false', gt_iff_lt, ge_iff_le] <;> omega) ?_
  conv => whnf
  first | refine callF r1 ⟨.refl _, .refl _, trivial⟩ (by trivial) rfl ?_ | ((repeat (refine ⟨by kernel_rfl, ?_⟩; (conv => whnf))); refine callF r1 ⟨.refl _, .refl _, trivial⟩ (by trivial) rfl ?_)
  conv => whnf
  first | refine callF r2 ⟨.refl _, .refl _, trivial⟩ (by trivial) rfl ?_ | ((repeat (refine ⟨by kernel_rfl, ?_⟩; (conv => whnf))); refine callF r2 ⟨.refl _, .refl _, trivial⟩ (by trivial) rfl ?_)
  conv => whnf
  first | refine callF c3 ⟨.refl _, .refl _, trivial⟩ (by trivial) rfl ?_ | ((repeat (refine ⟨by kernel_rfl, ?_⟩; (conv => whnf))); refine callF c3 ⟨.refl _, .refl _, trivial⟩ (by trivial) rfl ?_)
  conv => whnf
  refine ⟨by kernel_rfl, ?_⟩
  conv => whnf
  refine splF (by simp only [decide_eq_true_eq, decide_eq_false_iff_not, Bool.not_eq_true', Bool.not_eq_false', gt_iff_lt, ge_iff_le] <;> omega) ?_
  conv => whnf
  refine spl (fun h1 => ?_) (fun h1 => ?_) <;> simp only [decide_eq_true_eq, decide_eq_false_iff_not, Bool.not_eq_true', Bool.not_eq_false', gt_iff_lt, ge_iff_le] at h1
  · conv => whnf
    (repeat (refine ⟨by kernel_rfl, ?_⟩; (conv => whnf)))
    refine ⟨(by (try simp only [true_and, and_true, Nat.sub_zero, Nat.zero_add, Int.toNat_natCast]) <;> omega), ?_⟩
    exact .refl _
  · conv => whnf
    first | refine callF c4 ⟨.refl _, .refl _, trivial⟩ (by trivial) rfl ?_ | ((repeat (refine ⟨by kernel_rfl, ?_⟩; (conv => whnf))); refine callF c4 ⟨.refl _, .refl _, trivial⟩ (by trivial) rfl ?_)
    conv => whnf
    refine spl (fun h2 => ?_) (fun h2 => ?_) <;> simp only [decide_eq_true_eq, decide_eq_false_iff_not, Bool.not_eq_true', Bool.not_eq_false', gt_iff_lt, ge_iff_le] at h2
    · conv => whnf
      (repeat (refine ⟨by kernel_rfl, ?_⟩; (conv => whnf)))
      refine ⟨(by (try simp only [true_and, and_true, Nat.sub_zero, Nat.zero_add, Int.toNat_natCast]) <;> omega), ?_⟩
      exact .refl _
    · conv => whnf
      first | refine callF c5 ⟨.refl _, .refl _, trivial⟩ (by trivial) rfl ?_ | ((repeat (refine ⟨by kernel_rfl, ?_⟩; (conv => whnf))); refine callF c5 ⟨.refl _, .refl _, trivial⟩ (by trivial) rfl ?_)
      conv => whnf
      refine ⟨(by (try simp only [true_and, and_true, Nat.sub_zero, Nat.zero_add, Int.toNat_natCast]) <;> omega), ?_⟩
      exact .bool_of (decide_eq_true (h4 (by omega) (by omega)))


/-- integers of the language -/

theorem rValue_ok {x : AV} {z : Int} {s : Nat} (h : IsI x z s) (hs : s ≤ 4398046511000) : ACall Try.prog 29 [x] (valRes z) := by
  have hn := rNorm_ok h hs
  have hz := h.size
  have u := refUint64_nn z.natAbs (by unfold isz at hz; omega)
  obtain ⟨neg, g, n, _, hg, hn'⟩ := h
  generalize ival neg (nval g n) = z at *
  unfold int at hn
  unfold valRes
  obtain ⟨dz, hdz⟩ : ∃ dz, decide (z < 0) = dz := ⟨_, rfl⟩
  obtain ⟨v, hv⟩ : ∃ v, z.natAbs = v := ⟨_, rfl⟩
  rw [hdz, hv] at hn
  rw [hv] at u
  by_cases h64 : v < 18446744073709551616
  · rw [if_pos h64] at u
    rcases Int.lt_or_le z 0 with h | h
    · rw [decide_eq_true h] at hdz
      by_cases hl : -9223372036854775808 ≤ z
      · rw [if_pos (by omega)]
        obtain ⟨k, hk⟩ : ∃ k : Nat, v = k + 1 := ⟨v - 1, by omega⟩
        refine acall_rule env [0, 1, 2, 3, 4, 5, 14, 17, 29] Try.func29 rfl rfl rfl rfl ?_
        conv => whnf
        first | refine callF hn ⟨.refl _, trivial⟩ (by trivial) rfl ?_ | ((repeat (refine ⟨by kernel_rfl, ?_⟩; (conv => whnf))); refine callF hn ⟨.refl _, trivial⟩ (by trivial) rfl ?_)
        conv => whnf
        refine callF u ⟨.refl _, trivial⟩ (by trivial) rfl ?_
        obtain ⟨L, hL⟩ : ∃ L, (9223372036854775808 : Int) = L := ⟨_, rfl⟩
        rw [hL]
        conv => whnf
        refine splT hdz.symm ?_
        conv => whnf
        refine splT (by simp only [decide_eq_true_eq, decide_eq_false_iff_not, Bool.not_eq_true', Bool.not_eq_false', gt_iff_lt, ge_iff_le] <;> omega) ?_
        conv => whnf
        refine sumu64 k (by omega) (by omega) ?_
        conv => whnf
        refine sumi64 k rfl (by omega) ?_
        conv => whnf
        refine fit64 (by omega) ?_
        conv => whnf
        refine fit64 (by omega) ?_
        conv => whnf
        (repeat (refine ⟨by kernel_rfl, ?_⟩; (conv => whnf)))
        refine ⟨(by (try simp only [true_and, and_true, Nat.sub_zero, Nat.zero_add, Int.toNat_natCast]) <;> omega), ?_⟩
        exact .tup ⟨.int_of (by omega), .refl _, trivial⟩
      · rw [if_neg (by omega)]
        refine acall_rule env [0, 1, 2, 3, 4, 5, 14, 17, 29] Try.func29 rfl rfl rfl rfl ?_
        conv => whnf
        first | refine callF hn ⟨.refl _, trivial⟩ (by trivial) rfl ?_ | ((repeat (refine ⟨by kernel_rfl, ?_⟩; (conv => whnf))); refine callF hn ⟨.refl _, trivial⟩ (by trivial) rfl ?_)
        conv => whnf
        refine callF u ⟨.refl _, trivial⟩ (by trivial) rfl ?_
        obtain ⟨L, hL⟩ : ∃ L, (9223372036854775808 : Int) = L := ⟨_, rfl⟩
        rw [hL]
        conv => whnf
        refine splT hdz.symm ?_
        conv => whnf
        refine splF (by simp only [decide_eq_true_eq, decide_eq_false_iff_not, Bool.not_eq_true', Bool.not_eq_false', gt_iff_lt, ge_iff_le] <;> omega) ?_
        conv => whnf
        refine splF (by rw [← hdz]; rfl) ?_
        conv => whnf
        (repeat (refine ⟨by kernel_rfl, ?_⟩; (conv => whnf)))
        refine ⟨(by (try simp only [true_and, and_true, Nat.sub_zero, Nat.zero_add, Int.toNat_natCast]) <;> omega), ?_⟩
        exact .refl _
    · rw [decide_eq_false (by omega)] at hdz
      by_cases hl : z ≤ 9223372036854775807
      · rw [if_pos (by omega)]
        refine acall_rule env [0, 1, 2, 3, 4, 5, 14, 17, 29] Try.func29 rfl rfl rfl rfl ?_
        conv => whnf
        first | refine callF hn ⟨.refl _, trivial⟩ (by trivial) rfl ?_ | ((repeat (refine ⟨by kernel_rfl, ?_⟩; (conv => whnf))); refine callF hn ⟨.refl _, trivial⟩ (by trivial) rfl ?_)
        conv => whnf
        refine callF u ⟨.refl _, trivial⟩ (by trivial) rfl ?_
        obtain ⟨L, hL⟩ : ∃ L, (9223372036854775808 : Int) = L := ⟨_, rfl⟩
        rw [hL]
        conv => whnf
        refine splF hdz.symm ?_
        conv => whnf
        refine splT (by rw [← hdz]; rfl) ?_
        conv => whnf
        refine splT (by simp only [decide_eq_true_eq, decide_eq_false_iff_not, Bool.not_eq_true', Bool.not_eq_false', gt_iff_lt, ge_iff_le] <;> omega) ?_
        conv => whnf
        refine sumi64 v rfl (by omega) ?_
        conv => whnf
        (repeat (refine ⟨by kernel_rfl, ?_⟩; (conv => whnf)))
        refine ⟨(by (try simp only [true_and, and_true, Nat.sub_zero, Nat.zero_add, Int.toNat_natCast]) <;> omega), ?_⟩
        exact .tup ⟨.int_of (by omega), .refl _, trivial⟩
      · rw [if_neg (by omega)]
        refine acall_rule env [0, 1, 2, 3, 4, 5, 14, 17, 29] Try.func29 rfl rfl rfl rfl ?_
        conv => whnf
        first | refine callF hn ⟨.refl _, trivial⟩ (by trivial) rfl ?_ | ((repeat (refine ⟨by kernel_rfl, ?_⟩; (conv => whnf))); refine callF hn ⟨.refl _, trivial⟩ (by trivial) rfl ?_)
        conv => whnf
        refine callF u ⟨.refl _, trivial⟩ (by trivial) rfl ?_
        obtain ⟨L, hL⟩ : ∃ L, (9223372036854775808 : Int) = L := ⟨_, rfl⟩
        rw [hL]
        conv => whnf
        refine splF hdz.symm ?_
        conv => whnf
        refine splT (by rw [← hdz]; rfl) ?_
        conv => whnf
        refine splF (by simp only [decide_eq_true_eq, decide_eq_false_iff_not, Bool.not_eq_true', Bool.not_eq_false', gt_iff_lt, ge_iff_le] <;> omega) ?_
        conv => whnf
        (repeat (refine ⟨by kernel_rfl, ?_⟩; (conv => whnf)))
        refine ⟨(by (try simp only [true_and, and_true, Nat.sub_zero, Nat.zero_add, Int.toNat_natCast]) <;> omega), ?_⟩
        exact .refl _
  · rw [if_neg h64] at u
    rw [if_neg (by omega)]
    refine acall_rule env [0, 1, 2, 3, 4, 5, 14, 17, 29] Try.func29 rfl rfl rfl rfl ?_
    conv => whnf
    first | refine callF hn ⟨.refl _, trivial⟩ (by trivial) rfl ?_ | ((repeat (refine ⟨by kernel_rfl, ?_⟩; (conv => whnf))); refine callF hn ⟨.refl _, trivial⟩ (by trivial) rfl ?_)
    conv => whnf
    first | refine callF u ⟨.refl _, trivial⟩ (by trivial) rfl ?_ | ((repeat (refine ⟨by kernel_rfl, ?_⟩; (conv => whnf))); refine callF u ⟨.refl _, trivial⟩ (by trivial) rfl ?_)
    conv => whnf
    (repeat (refine ⟨by kernel_rfl, ?_⟩; (conv => whnf)))
    refine ⟨(by (try simp only [true_and, and_true, Nat.sub_zero, Nat.zero_add, Int.toNat_natCast]) <;> omega), ?_⟩
    exact .refl _


theorem IntegerValues_ok {x y : AV} {a b : Int} {s t : Nat} (v : Int) (ha : IsI x a s) (hb : IsI y b t) (hs : s ≤ 1099511627776) (ht : t ≤ 1099511627776) (hv : -9223372036854775808 ≤ v ∧ v ≤ 9223372036854775807) :
    ACall Try.prog 6 [x, y, .f (.int .i64 v)] (.f (.bool true)) := by
  have sa := ha.size
  have sb := hb.size
  have sab := isz_add sa sb
  have mab := isz_mul sa sb
  have v1 := iValue_ok ha (by omega)
  have v2 := rValue_ok ha (by omega)
  have f1 := iFromInt_ok v hv
  have sv : isz v ≤ 2 := isz_small (by omega)
  have v3 := iValue_ok (isI_int v sv) (by omega)
  unfold valRes at v1 v2 v3
  rw [if_pos hv] at v3
  have n1 := iNorm_ok ha (by omega)
  have n2 := rNorm_ok ha (by omega)
  have e1 := rEqual_same a (by omega)
  have f2 := rFromInt_ok v hv
  have e2 := rEqual_same v (by omega)
  have g1 := iSign_ok ha (by omega)
  have g2 := rSign_ok ha (by omega)
  have c1 := iCompare_ok ha hb (by omega) (by omega)
  have c2 := rCompare_ok ha hb (by omega) (by omega)
  obtain ⟨na, g, n, _, hg, hn⟩ := ha
  obtain ⟨nb, h, m, _, hh, hm⟩ := hb
  generalize ival na (nval g n) = a at *
  generalize ival nb (nval h m) = b at *
  by_cases hr : -9223372036854775808 ≤ a ∧ a ≤ 9223372036854775807
  · rw [if_pos hr] at v1 v2
    refine acall_rule env [0, 1, 2, 3, 4, 6, 7, 8, 9, 10, 11, 12] Try.func6 rfl rfl rfl rfl ?_
    conv => whnf
    first | refine callF v1 ⟨.refl _, trivial⟩ (by trivial) rfl ?_ | ((repeat (refine ⟨by kernel_rfl, ?_⟩; (conv => whnf))); refine callF v1 ⟨.refl _, trivial⟩ (by trivial) rfl ?_)
    conv => whnf
    first | refine callF v2 ⟨.refl _, trivial⟩ (by trivial) rfl ?_ | ((repeat (refine ⟨by kernel_rfl, ?_⟩; (conv => whnf))); refine callF v2 ⟨.refl _, trivial⟩ (by trivial) rfl ?_)
    conv => whnf
    first | refine callF f1 ⟨.refl _, trivial⟩ (by trivial) rfl ?_ | ((repeat (refine ⟨by kernel_rfl, ?_⟩; (conv => whnf))); refine callF f1 ⟨.refl _, trivial⟩ (by trivial) rfl ?_)
    conv => whnf
    first | refine callF v3 ⟨.refl _, trivial⟩ (by trivial) rfl ?_ | ((repeat (refine ⟨by kernel_rfl, ?_⟩; (conv => whnf))); refine callF v3 ⟨.refl _, trivial⟩ (by trivial) rfl ?_)
    conv => whnf
    first | refine callF awake2_ok trivial (by trivial) rfl ?_ | ((repeat (refine ⟨by kernel_rfl, ?_⟩; (conv => whnf))); refine callF awake2_ok trivial (by trivial) rfl ?_)
    conv => whnf
    first | refine callF n1 ⟨.refl _, trivial⟩ (by trivial) rfl ?_ | ((repeat (refine ⟨by kernel_rfl, ?_⟩; (conv => whnf))); refine callF n1 ⟨.refl _, trivial⟩ (by trivial) rfl ?_)
    conv => whnf
    first | refine callF n2 ⟨.refl _, trivial⟩ (by trivial) rfl ?_ | ((repeat (refine ⟨by kernel_rfl, ?_⟩; (conv => whnf))); refine callF n2 ⟨.refl _, trivial⟩ (by trivial) rfl ?_)
    conv => whnf
    first | refine callF e1 ⟨.refl _, .refl _, trivial⟩ (by trivial) rfl ?_ | ((repeat (refine ⟨by kernel_rfl, ?_⟩; (conv => whnf))); refine callF e1 ⟨.refl _, .refl _, trivial⟩ (by trivial) rfl ?_)
    conv => whnf
    first | refine callF f1 ⟨.refl _, trivial⟩ (by trivial) rfl ?_ | ((repeat (refine ⟨by kernel_rfl, ?_⟩; (conv => whnf))); refine callF f1 ⟨.refl _, trivial⟩ (by trivial) rfl ?_)
    conv => whnf
    first | refine callF f2 ⟨.refl _, trivial⟩ (by trivial) rfl ?_ | ((repeat (refine ⟨by kernel_rfl, ?_⟩; (conv => whnf))); refine callF f2 ⟨.refl _, trivial⟩ (by trivial) rfl ?_)
    conv => whnf
    first | refine callF e2 ⟨.refl _, .refl _, trivial⟩ (by trivial) rfl ?_ | ((repeat (refine ⟨by kernel_rfl, ?_⟩; (conv => whnf))); refine callF e2 ⟨.refl _, .refl _, trivial⟩ (by trivial) rfl ?_)
    conv => whnf
    refine splT (by simp only [decide_eq_true_eq, decide_eq_false_iff_not, Bool.not_eq_true', Bool.not_eq_false', gt_iff_lt, ge_iff_le] <;> omega) ?_
    conv => whnf
    refine splT (by simp only [decide_eq_true_eq, decide_eq_false_iff_not, Bool.not_eq_true', Bool.not_eq_false', gt_iff_lt, ge_iff_le] <;> omega) ?_
    conv => whnf
    first | refine callF g1 ⟨.refl _, trivial⟩ (by trivial) rfl ?_ | ((repeat (refine ⟨by kernel_rfl, ?_⟩; (conv => whnf))); refine callF g1 ⟨.refl _, trivial⟩ (by trivial) rfl ?_)
    conv => whnf
    first | refine callF g2 ⟨.refl _, trivial⟩ (by trivial) rfl ?_ | ((repeat (refine ⟨by kernel_rfl, ?_⟩; (conv => whnf))); refine callF g2 ⟨.refl _, trivial⟩ (by trivial) rfl ?_)
    conv => whnf
    refine splT (by simp only [decide_eq_true_eq, decide_eq_false_iff_not, Bool.not_eq_true', Bool.not_eq_false', gt_iff_lt, ge_iff_le] <;> omega) ?_
    conv => whnf
    first | refine callF c1 ⟨.refl _, .refl _, trivial⟩ (by trivial) rfl ?_ | ((repeat (refine ⟨by kernel_rfl, ?_⟩; (conv => whnf))); refine callF c1 ⟨.refl _, .refl _, trivial⟩ (by trivial) rfl ?_)
    conv => whnf
    first | refine callF c2 ⟨.refl _, .refl _, trivial⟩ (by trivial) rfl ?_ | ((repeat (refine ⟨by kernel_rfl, ?_⟩; (conv => whnf))); refine callF c2 ⟨.refl _, .refl _, trivial⟩ (by trivial) rfl ?_)
    conv => whnf
    (repeat (refine ⟨by kernel_rfl, ?_⟩; (conv => whnf)))
    refine ⟨(by (try simp only [true_and, and_true, Nat.sub_zero, Nat.zero_add, Int.toNat_natCast]) <;> omega), ?_⟩
    exact .bool_of (decide_eq_true rfl)
  · rw [if_neg hr] at v1 v2
    refine acall_rule env [0, 1, 2, 3, 4, 6, 7, 8, 9, 10, 11, 12] Try.func6 rfl rfl rfl rfl ?_
    conv => whnf
    first | refine callF v1 ⟨.refl _, trivial⟩ (by trivial) rfl ?_ | ((repeat (refine ⟨by kernel_rfl, ?_⟩; (conv => whnf))); refine callF v1 ⟨.refl _, trivial⟩ (by trivial) rfl ?_)
    conv => whnf
    first | refine callF v2 ⟨.refl _, trivial⟩ (by trivial) rfl ?_ | ((repeat (refine ⟨by kernel_rfl, ?_⟩; (conv => whnf))); refine callF v2 ⟨.refl _, trivial⟩ (by trivial) rfl ?_)
    conv => whnf
    first | refine callF f1 ⟨.refl _, trivial⟩ (by trivial) rfl ?_ | ((repeat (refine ⟨by kernel_rfl, ?_⟩; (conv => whnf))); refine callF f1 ⟨.refl _, trivial⟩ (by trivial) rfl ?_)
    conv => whnf
    first | refine callF v3 ⟨.refl _, trivial⟩ (by trivial) rfl ?_ | ((repeat (refine ⟨by kernel_rfl, ?_⟩; (conv => whnf))); refine callF v3 ⟨.refl _, trivial⟩ (by trivial) rfl ?_)
    conv => whnf
    first | refine callF awake2_ok trivial (by trivial) rfl ?_ | ((repeat (refine ⟨by kernel_rfl, ?_⟩; (conv => whnf))); refine callF awake2_ok trivial (by trivial) rfl ?_)
    conv => whnf
    first | refine callF n1 ⟨.refl _, trivial⟩ (by trivial) rfl ?_ | ((repeat (refine ⟨by kernel_rfl, ?_⟩; (conv => whnf))); refine callF n1 ⟨.refl _, trivial⟩ (by trivial) rfl ?_)
    conv => whnf
    first | refine callF n2 ⟨.refl _, trivial⟩ (by trivial) rfl ?_ | ((repeat (refine ⟨by kernel_rfl, ?_⟩; (conv => whnf))); refine callF n2 ⟨.refl _, trivial⟩ (by trivial) rfl ?_)
    conv => whnf
    first | refine callF e1 ⟨.refl _, .refl _, trivial⟩ (by trivial) rfl ?_ | ((repeat (refine ⟨by kernel_rfl, ?_⟩; (conv => whnf))); refine callF e1 ⟨.refl _, .refl _, trivial⟩ (by trivial) rfl ?_)
    conv => whnf
    first | refine callF f1 ⟨.refl _, trivial⟩ (by trivial) rfl ?_ | ((repeat (refine ⟨by kernel_rfl, ?_⟩; (conv => whnf))); refine callF f1 ⟨.refl _, trivial⟩ (by trivial) rfl ?_)
    conv => whnf
    first | refine callF f2 ⟨.refl _, trivial⟩ (by trivial) rfl ?_ | ((repeat (refine ⟨by kernel_rfl, ?_⟩; (conv => whnf))); refine callF f2 ⟨.refl _, trivial⟩ (by trivial) rfl ?_)
    conv => whnf
    first | refine callF e2 ⟨.refl _, .refl _, trivial⟩ (by trivial) rfl ?_ | ((repeat (refine ⟨by kernel_rfl, ?_⟩; (conv => whnf))); refine callF e2 ⟨.refl _, .refl _, trivial⟩ (by trivial) rfl ?_)
    conv => whnf
    skip
    refine splT (by simp only [decide_eq_true_eq, decide_eq_false_iff_not, Bool.not_eq_true', Bool.not_eq_false', gt_iff_lt, ge_iff_le] <;> omega) ?_
    conv => whnf
    first | refine callF g1 ⟨.refl _, trivial⟩ (by trivial) rfl ?_ | ((repeat (refine ⟨by kernel_rfl, ?_⟩; (conv => whnf))); refine callF g1 ⟨.refl _, trivial⟩ (by trivial) rfl ?_)
    conv => whnf
    first | refine callF g2 ⟨.refl _, trivial⟩ (by trivial) rfl ?_ | ((repeat (refine ⟨by kernel_rfl, ?_⟩; (conv => whnf))); refine callF g2 ⟨.refl _, trivial⟩ (by trivial) rfl ?_)
    conv => whnf
    refine splT (by simp only [decide_eq_true_eq, decide_eq_false_iff_not, Bool.not_eq_true', Bool.not_eq_false', gt_iff_lt, ge_iff_le] <;> omega) ?_
    conv => whnf
    first | refine callF c1 ⟨.refl _, .refl _, trivial⟩ (by trivial) rfl ?_ | ((repeat (refine ⟨by kernel_rfl, ?_⟩; (conv => whnf))); refine callF c1 ⟨.refl _, .refl _, trivial⟩ (by trivial) rfl ?_)
    conv => whnf
    first | refine callF c2 ⟨.refl _, .refl _, trivial⟩ (by trivial) rfl ?_ | ((repeat (refine ⟨by kernel_rfl, ?_⟩; (conv => whnf))); refine callF c2 ⟨.refl _, .refl _, trivial⟩ (by trivial) rfl ?_)
    conv => whnf
    (repeat (refine ⟨by kernel_rfl, ?_⟩; (conv => whnf)))
    refine ⟨(by (try simp only [true_and, and_true, Nat.sub_zero, Nat.zero_add, Int.toNat_natCast]) <;> omega), ?_⟩
    exact .bool_of (decide_eq_true rfl)

theorem IntegerNative_ok (a b : Int) (ha : -2147483648 ≤ a ∧ a ≤ 2147483647) (hb : -2147483648 ≤ b ∧ b ≤ 2147483647) :
    ACall Try.prog 8 [.f (.int .i32 a), .f (.int .i32 b)] (.f (.bool true)) := by
  have f1 := iFromInt_ok a (by omega)
  have f2 := iFromInt_ok b (by omega)
  have sa : isz a ≤ 2 := isz_small (by omega)
  have sb : isz b ≤ 2 := isz_small (by omega)
  have hab : -4611686018427387904 ≤ a * b ∧ a * b ≤ 4611686018427387904 := by
    have h1 : (a * b).natAbs ≤ 2147483648 * 2147483648 := by rw [Int.natAbs_mul]; exact Nat.mul_le_mul (by omega) (by omega)
    omega
  have r1 := iAdd_ok (isI_int a sa) (isI_int b sb) (by omega) (by omega)
  have p1 := iMul_ok (isI_int a sa) (isI_int b sb) (by omega)
  have s1 := iSub_ok (isI_int a sa) (isI_int b sb) (by omega) (by omega)
  have v1 := iValue_ok (isI_int (a + b) (isz_add sa sb)) (by omega)
  have v2 := iValue_ok (isI_int (a * b) (isz_mul sa sb)) (by omega)
  have v3 := iValue_ok (isI_int (a - b) (isz_sub sa sb)) (by omega)
  unfold valRes at v1 v2 v3
  rw [if_pos (by omega)] at v1 v2 v3
  refine acall_rule env [0, 1, 4, 5, 6, 7, 8, 9, 10, 11, 12] Try.func8 rfl rfl rfl rfl ?_
  conv => whnf
  refine fit64 (by omega) ?_
  conv => whnf
  first | refine callF f1 ⟨.refl _, trivial⟩ (by trivial) rfl ?_ | ((repeat (refine ⟨by kernel_rfl, ?_⟩; (conv => whnf))); refine callF f1 ⟨.refl _, trivial⟩ (by trivial) rfl ?_)
  conv => whnf
  refine fit64 (by omega) ?_
  conv => whnf
  first | refine callF f2 ⟨.refl _, trivial⟩ (by trivial) rfl ?_ | ((repeat (refine ⟨by kernel_rfl, ?_⟩; (conv => whnf))); refine callF f2 ⟨.refl _, trivial⟩ (by trivial) rfl ?_)
  conv => whnf
  first | refine callF r1 ⟨.refl _, .refl _, trivial⟩ (by trivial) rfl ?_ | ((repeat (refine ⟨by kernel_rfl, ?_⟩; (conv => whnf))); refine callF r1 ⟨.refl _, .refl _, trivial⟩ (by trivial) rfl ?_)
  conv => whnf
  first | refine callF v1 ⟨.refl _, trivial⟩ (by trivial) rfl ?_ | ((repeat (refine ⟨by kernel_rfl, ?_⟩; (conv => whnf))); refine callF v1 ⟨.refl _, trivial⟩ (by trivial) rfl ?_)
  conv => whnf
  first | refine callF p1 ⟨.refl _, .refl _, trivial⟩ (by trivial) rfl ?_ | ((repeat (refine ⟨by kernel_rfl, ?_⟩; (conv => whnf))); refine callF p1 ⟨.refl _, .refl _, trivial⟩ (by trivial) rfl ?_)
  conv => whnf
  first | refine callF v2 ⟨.refl _, trivial⟩ (by trivial) rfl ?_ | ((repeat (refine ⟨by kernel_rfl, ?_⟩; (conv => whnf))); refine callF v2 ⟨.refl _, trivial⟩ (by trivial) rfl ?_)
  conv => whnf
  first | refine callF s1 ⟨.refl _, .refl _, trivial⟩ (by trivial) rfl ?_ | ((repeat (refine ⟨by kernel_rfl, ?_⟩; (conv => whnf))); refine callF s1 ⟨.refl _, .refl _, trivial⟩ (by trivial) rfl ?_)
  conv => whnf
  first | refine callF v3 ⟨.refl _, trivial⟩ (by trivial) rfl ?_ | ((repeat (refine ⟨by kernel_rfl, ?_⟩; (conv => whnf))); refine callF v3 ⟨.refl _, trivial⟩ (by trivial) rfl ?_)
  conv => whnf
  first | refine callF awake2_ok trivial (by trivial) rfl ?_ | ((repeat (refine ⟨by kernel_rfl, ?_⟩; (conv => whnf))); refine callF awake2_ok trivial (by trivial) rfl ?_)
  conv => whnf
  refine fit64 (by omega) ?_
  conv => whnf
  refine fit64 (by omega) ?_
  conv => whnf
  refine fit64 (by omega) ?_
  conv => whnf
  refine splT (by rw [decide_eq_true rfl]) ?_
  conv => whnf
  refine fit64 (by omega) ?_
  conv => whnf
  refine fit64 (by omega) ?_
  conv => whnf
  refine fit64 (by omega) ?_
  conv => whnf
  refine splT (by rw [decide_eq_true rfl]) ?_
  conv => whnf
  refine fit64 (by omega) ?_
  conv => whnf
  refine fit64 (by omega) ?_
  conv => whnf
  refine fit64 (by omega) ?_
  conv => whnf
  (repeat (refine ⟨by kernel_rfl, ?_⟩; (conv => whnf)))
  refine ⟨(by (try simp only [true_and, and_true, Nat.sub_zero, Nat.zero_add, Int.toNat_natCast]) <;> omega), ?_⟩
  exact .bool_of (decide_eq_true rfl)
end Go.Abs

/- The law of common divisors. -/
set_option autoImplicit false
set_option maxHeartbeats 4000000
set_option maxRecDepth 10000
set_option linter.unusedVariables false
set_option linter.unusedSimpArgs false
namespace Go.Abs
open Go Go.Proofs

theorem isz_gcd {a b : Int} {s : Nat} (ha : isz a ≤ s) (hb : isz b ≤ s) : isz (Nat.gcd a.natAbs b.natAbs : Nat) ≤ s := by
  by_cases h : a = 0
  · subst h
    rw [Int.natAbs_zero, Nat.gcd_zero_left, isz_abs]; exact hb
  · refine Nat.le_trans (size_mono ?_) ha
    rw [Int.natAbs_natCast]
    exact Nat.gcd_le_left _ (by omega)

theorem IntegerDivisors_ok {x y w : AV} {a b c : Int} {s t u : Nat} (ha : IsI x a s) (hb : IsI y b t) (hc : IsI w c u) (hs : s ≤ 1099511627776) (ht : t ≤ 1099511627776) (hu : u ≤ 1099511627776) :
    ACall Try.prog 9 [x, y, w] (.f (.bool true)) := by
  have sa := ha.size
  have sb := hb.size
  have sc := hc.size
  have mac := isz_mul sa sc
  have mbc := isz_mul sb sc
  have m1 := iMul_ok ha hc (by omega)
  have m2 := iMul_ok hb hc (by omega)
  have mac' : isz (a * c) ≤ 2199023255552 := by omega
  have mbc' : isz (b * c) ≤ 2199023255552 := by omega
  have g1 := iGCD_ok (isI_int (a * c) mac') (isI_int (b * c) mbc') (by omega) (by omega)
  have sg := isz_gcd mac' mbc'
  obtain ⟨k, hk⟩ : ∃ k : Nat, Nat.gcd (a * c).natAbs (b * c).natAbs = k * c.natAbs := by
    refine ⟨Nat.gcd a.natAbs b.natAbs, ?_⟩
    rw [Int.natAbs_mul, Int.natAbs_mul, Nat.gcd_mul_right]
  obtain ⟨g, hg⟩ : ∃ g : Nat, Nat.gcd (a * c).natAbs (b * c).natAbs = g := ⟨_, rfl⟩
  rw [hg] at g1 sg hk
  have d1 := iDivMod_ok (isI_int (g : Nat) sg) hc (by omega) (by omega)
  have s1 := iSign_ok hc (by omega)
  have s2 := iSign_ok (isI_int (g : Nat) sg) (by omega)
  unfold idivRes at d1
  by_cases h0 : c = 0
  · rw [if_pos h0] at d1
    have hg0 : (g : Int) = 0 := by subst h0; simp at hk; omega
    rw [show sgn c = 0 by rw [h0]; rfl] at s1
    rw [show sgn (g : Nat) = 0 by rw [hg0]; rfl] at s2
    obtain ⟨na, ga, n, _, hga, hn⟩ := ha
    obtain ⟨nb, gb, m, _, hgb, hm⟩ := hb
    obtain ⟨nc, gc, l, _, hgc, hl⟩ := hc
    refine acall_rule env [0, 1, 2, 3, 4, 5, 6, 7, 8, 10, 11, 28] Try.func9 rfl rfl rfl rfl ?_
    conv => whnf
    first | refine callF m1 ⟨.refl _, .refl _, trivial⟩ (by trivial) rfl ?_ | ((repeat (refine ⟨by kernel_rfl, ?_⟩; (conv => whnf))); refine callF m1 ⟨.refl _, .refl _, trivial⟩ (by trivial) rfl ?_)
    conv => whnf
    first | refine callF m2 ⟨.refl _, .refl _, trivial⟩ (by trivial) rfl ?_ | ((repeat (refine ⟨by kernel_rfl, ?_⟩; (conv => whnf))); refine callF m2 ⟨.refl _, .refl _, trivial⟩ (by trivial) rfl ?_)
    conv => whnf
    first | refine callF g1 ⟨.refl _, .refl _, trivial⟩ (by trivial) rfl ?_ | ((repeat (refine ⟨by kernel_rfl, ?_⟩; (conv => whnf))); refine callF g1 ⟨.refl _, .refl _, trivial⟩ (by trivial) rfl ?_)
    conv => whnf
    first | refine callF d1 ⟨.refl _, .refl _, trivial⟩ (by trivial) rfl ?_ | ((repeat (refine ⟨by kernel_rfl, ?_⟩; (conv => whnf))); refine callF d1 ⟨.refl _, .refl _, trivial⟩ (by trivial) rfl ?_)
    conv => whnf
    first | refine callF s1 ⟨.refl _, trivial⟩ (by trivial) rfl ?_ | ((repeat (refine ⟨by kernel_rfl, ?_⟩; (conv => whnf))); refine callF s1 ⟨.refl _, trivial⟩ (by trivial) rfl ?_)
    conv => whnf
    first | refine callF g1 ⟨.refl _, .refl _, trivial⟩ (by trivial) rfl ?_ | ((repeat (refine ⟨by kernel_rfl, ?_⟩; (conv => whnf))); refine callF g1 ⟨.refl _, .refl _, trivial⟩ (by trivial) rfl ?_)
    conv => whnf
    first | refine callF s2 ⟨.refl _, trivial⟩ (by trivial) rfl ?_ | ((repeat (refine ⟨by kernel_rfl, ?_⟩; (conv => whnf))); refine callF s2 ⟨.refl _, trivial⟩ (by trivial) rfl ?_)
    conv => whnf
    first | refine callF awake2_ok trivial (by trivial) rfl ?_ | ((repeat (refine ⟨by kernel_rfl, ?_⟩; (conv => whnf))); refine callF awake2_ok trivial (by trivial) rfl ?_)
    conv => whnf
    (repeat (refine ⟨by kernel_rfl, ?_⟩; (conv => whnf)))
    refine ⟨(by (try simp only [true_and, and_true, Nat.sub_zero, Nat.zero_add, Int.toNat_natCast]) <;> omega), ?_⟩
    exact .refl _
  · rw [if_neg h0] at d1
    have hr : (g : Int) % c = 0 := by
      rw [hk, Int.natCast_mul]
      have : c ∣ (c.natAbs : Int) := Int.dvd_natAbs.2 (Int.dvd_refl c)
      exact Int.emod_eq_zero_of_dvd (Int.dvd_trans this (Int.dvd_mul_left _ _))
    rw [hr] at d1
    have s3 := iSign_ok (isI_int 0 (s := 1) (by decide)) (by omega)
    rw [show sgn 0 = 0 from rfl] at s3
    obtain ⟨q, hq⟩ : ∃ q : Int, (g : Int) / c = q := ⟨_, rfl⟩
    rw [hq] at d1
    obtain ⟨na, ga, n, _, hga, hn⟩ := ha
    obtain ⟨nb, gb, m, _, hgb, hm⟩ := hb
    obtain ⟨nc, gc, l, _, hgc, hl⟩ := hc
    refine acall_rule env [0, 1, 2, 3, 4, 5, 6, 7, 8, 10, 11, 28] Try.func9 rfl rfl rfl rfl ?_
    conv => whnf
    first | refine callF m1 ⟨.refl _, .refl _, trivial⟩ (by trivial) rfl ?_ | ((repeat (refine ⟨by kernel_rfl, ?_⟩; (conv => whnf))); refine callF m1 ⟨.refl _, .refl _, trivial⟩ (by trivial) rfl ?_)
    conv => whnf
    first | refine callF m2 ⟨.refl _, .refl _, trivial⟩ (by trivial) rfl ?_ | ((repeat (refine ⟨by kernel_rfl, ?_⟩; (conv => whnf))); refine callF m2 ⟨.refl _, .refl _, trivial⟩ (by trivial) rfl ?_)
    conv => whnf
    first | refine callF g1 ⟨.refl _, .refl _, trivial⟩ (by trivial) rfl ?_ | ((repeat (refine ⟨by kernel_rfl, ?_⟩; (conv => whnf))); refine callF g1 ⟨.refl _, .refl _, trivial⟩ (by trivial) rfl ?_)
    conv => whnf
    first | refine callF d1 ⟨.refl _, .refl _, trivial⟩ (by trivial) rfl ?_ | ((repeat (refine ⟨by kernel_rfl, ?_⟩; (conv => whnf))); refine callF d1 ⟨.refl _, .refl _, trivial⟩ (by trivial) rfl ?_)
    conv => whnf
    first | refine callF s3 ⟨.refl _, trivial⟩ (by trivial) rfl ?_ | ((repeat (refine ⟨by kernel_rfl, ?_⟩; (conv => whnf))); refine callF s3 ⟨.refl _, trivial⟩ (by trivial) rfl ?_)
    conv => whnf
    first | refine callF awake2_ok trivial (by trivial) rfl ?_ | ((repeat (refine ⟨by kernel_rfl, ?_⟩; (conv => whnf))); refine callF awake2_ok trivial (by trivial) rfl ?_)
    conv => whnf
    (repeat (refine ⟨by kernel_rfl, ?_⟩; (conv => whnf)))
    refine ⟨(by (try simp only [true_and, and_true, Nat.sub_zero, Nat.zero_add, Int.toNat_natCast]) <;> omega), ?_⟩
    exact .refl _
end Go.Abs

/- Integers: Extended. -/
set_option autoImplicit false
set_option maxHeartbeats 4000000
set_option maxRecDepth 10000
set_option linter.unusedVariables false
set_option linter.unusedSimpArgs false
namespace Go.Abs
open Go Go.Proofs

def ext (r : Nat) (s t : Int) (r2 : Nat) (s2 t2 : Int) : Int × Int :=
  if h : r2 = 0 then (s, t) else ext r2 s2 t2 (r % r2) (s - (r / r2 : Nat) * s2) (t - (r / r2 : Nat) * t2)
termination_by r2
decreasing_by exact Nat.mod_lt _ (Nat.pos_of_ne_zero h)
theorem ext_zero (r : Nat) (s t s2 t2 : Int) : ext r s t 0 s2 t2 = (s, t) := by rw [ext]; simp
theorem ext_step (r : Nat) (s t : Int) (r2 : Nat) (s2 t2 : Int) (h : r2 ≠ 0) :
    ext r s t r2 s2 t2 = ext r2 s2 t2 (r % r2) (s - (r / r2 : Nat) * s2) (t - (r / r2 : Nat) * t2) := by rw [ext, dif_neg h]

/-- the sum of absolute values of numbers of opposite signs -/
theorem abs_opp {s s2 q : Int} (h : s * s2 ≤ 0) (hq : 0 ≤ q) : (s - q * s2).natAbs = s.natAbs + q.natAbs * s2.natAbs := by
  rcases Int.lt_trichotomy s2 0 with h2 | h2 | h2
  · have hs : 0 ≤ s := by
      rcases Int.lt_or_le s 0 with h3 | h3
      · have := Int.mul_pos_of_neg_of_neg h3 h2; omega
      · exact h3
    have : q * s2 ≤ 0 := Int.mul_nonpos_of_nonneg_of_nonpos hq (by omega)
    rw [← Int.natAbs_mul]; omega
  · subst h2; simp
  · have hs : s ≤ 0 := by
      rcases Int.lt_or_le 0 s with h3 | h3
      · have := Int.mul_pos h3 h2; omega
      · exact h3
    have : 0 ≤ q * s2 := Int.mul_nonneg hq (by omega)
    rw [← Int.natAbs_mul]; omega
theorem opp_next {s s2 q : Int} (h : s * s2 ≤ 0) (hq : 0 ≤ q) : s2 * (s - q * s2) ≤ 0 := by
  have h1 : 0 ≤ s2 * s2 := by
    rcases Int.le_total 0 s2 with h | h
    · exact Int.mul_nonneg h h
    · exact Int.mul_nonneg_of_nonpos_of_nonpos h h
  have h2 : s2 * (s - q * s2) = s * s2 - q * (s2 * s2) := by rw [Int.mul_sub, Int.mul_comm s2 s, Int.mul_left_comm]
  have h3 := Int.mul_nonneg hq h1
  omega

structure Ext (A B : Nat) (r : Nat) (s t : Int) (r2 : Nat) (s2 t2 : Int) : Prop where
  e1 : A * s + B * t = r
  e2 : A * s2 + B * t2 = r2
  b1 : s2.natAbs * r + s.natAbs * r2 = B
  b2 : t2.natAbs * r + t.natAbs * r2 = A
  o1 : s * s2 ≤ 0
  o2 : t * t2 ≤ 0
  gc : Nat.gcd r r2 = Nat.gcd A B
  ls : s.natAbs ≤ B + 1
  lt : t.natAbs ≤ A + 1
  ls2 : s2.natAbs ≤ B + 1
  lt2 : t2.natAbs ≤ A + 1
  lr : r ≤ A + B
  lr2 : r2 ≤ A + B
  ph : (r = A ∧ s = 1 ∧ t = 0 ∧ r2 = B ∧ s2 = 0 ∧ t2 = 1) ∨ (r2 < r ∧ s.natAbs ≤ s2.natAbs ∧ (t.natAbs ≤ t2.natAbs ∨ (s = 0 ∧ s2 = 1 ∧ t = 1 ∧ t2 = 0 ∧ r = B ∧ r2 = A)))
theorem Ext.init (A B : Nat) : Ext A B A 1 0 B 0 1 := ⟨by omega, by omega, by simp, by simp, by omega, by omega, rfl, by omega, by omega, by omega, by omega, by omega, by omega, .inl ⟨rfl, rfl, rfl, rfl, rfl, rfl⟩⟩
theorem Ext.step {A B r r2 : Nat} {s t s2 t2 : Int} (h : Ext A B r s t r2 s2 t2) (h0 : r2 ≠ 0) :
    Ext A B r2 s2 t2 (r % r2) (s - (r / r2 : Nat) * s2) (t - (r / r2 : Nat) * t2) := by
  obtain ⟨e1, e2, b1, b2, o1, o2, gc, ls, lt, ls2, lt2, lr, lr2, ph⟩ := h
  have hm : r % r2 < r2 := Nat.mod_lt _ (by omega)
  have hd := Nat.div_add_mod r r2
  have hq : (0 : Int) ≤ (r / r2 : Nat) := Int.natCast_nonneg _
  have a1 := abs_opp o1 hq
  have a2 := abs_opp o2 hq
  have n1 := opp_next o1 hq
  have n2 := opp_next o2 hq
  rw [Int.natAbs_natCast] at a1 a2
  have hq1 : r2 ≤ r → 1 ≤ r / r2 := fun h => (Nat.one_le_div_iff (by omega)).2 h
  have hq0 : r < r2 → r / r2 = 0 ∧ r % r2 = r := fun h => ⟨Nat.div_eq_of_lt h, Nat.mod_eq_of_lt h⟩
  obtain ⟨q, hqq⟩ : ∃ q, r / r2 = q := ⟨_, rfl⟩
  obtain ⟨m, hmm⟩ : ∃ m, r % r2 = m := ⟨_, rfl⟩
  have gc' : Nat.gcd r2 (r % r2) = Nat.gcd A B := by rw [← gc, Nat.gcd_comm r2, ← Nat.gcd_rec, Nat.gcd_comm]
  rw [hqq] at a1 a2 n1 n2 hd hq hq1 hq0 ⊢
  rw [hmm] at hd hm hq0 gc' ⊢
  clear hqq hmm
  have f1 : (A : Int) * (s - q * s2) + B * (t - q * t2) = m := by
    have : (A : Int) * (s - q * s2) + B * (t - q * t2) = (A * s + B * t) - q * (A * s2 + B * t2) := by
      simp only [Int.mul_sub, Int.mul_add, Int.mul_left_comm (A : Int), Int.mul_left_comm (B : Int)]; omega
    rw [this, e1, e2]
    have : (r : Int) = r2 * q + m := by rw [← hd]; simp
    rw [this, Int.mul_comm (q : Int)]; omega
  have g1 : (s - q * s2).natAbs * r2 + s2.natAbs * m = B := by
    rw [a1, Nat.add_mul, ← b1, ← hd, Nat.mul_add, Nat.mul_assoc, Nat.mul_left_comm q, Nat.mul_comm q r2]; omega
  have g2 : (t - q * t2).natAbs * r2 + t2.natAbs * m = A := by
    rw [a2, Nat.add_mul, ← b2, ← hd, Nat.mul_add, Nat.mul_assoc, Nat.mul_left_comm q, Nat.mul_comm q r2]; omega
  have k1 : (s - q * s2).natAbs ≤ B := by
    have := Nat.le_mul_of_pos_right (s - q * s2).natAbs (Nat.pos_of_ne_zero h0); omega
  have k2 : (t - q * t2).natAbs ≤ A := by
    have := Nat.le_mul_of_pos_right (t - q * t2).natAbs (Nat.pos_of_ne_zero h0); omega
  have grow : ∀ {x : Nat}, 1 ≤ q → x ≤ q * x := fun {x} h => Nat.le_mul_of_pos_left x h
  refine ⟨e2, f1, g1, g2, n1, n2, gc', ls2, lt2, by omega, by omega, lr2, by omega, .inr ⟨hm, ?_, ?_⟩⟩
  · rw [a1]
    rcases ph with ⟨_, _, _, _, rfl, _⟩ | ⟨hr, _, _⟩
    · simp
    · have := grow (x := s2.natAbs) (hq1 (by omega)); omega
  · rcases ph with ⟨rfl, rfl, rfl, rfl, rfl, rfl⟩ | ⟨hr, _, _⟩
    · rcases Nat.lt_or_ge r r2 with hlt | hge
      · obtain ⟨rfl, rfl⟩ := hq0 hlt
        right; simp
      · left; rw [a2]; have := grow (x := (1 : Int).natAbs) (hq1 hge); omega
    · left; rw [a2]; have := grow (x := t2.natAbs) (hq1 (by omega)); omega
/-- what the reference checks -/
structure Bez (A B : Nat) (s t : Int) : Prop where
  e : A * s + B * t = (Nat.gcd A B : Nat)
  b0 : B = 0 → s = 1 ∧ t = 0
  a0 : A = 0 → B ≠ 0 → s = 0 ∧ t = 1
  ls : A ≠ 0 → B ≠ 0 → s.natAbs * Nat.gcd A B ≤ B
  lt : A ≠ 0 → B ≠ 0 → t.natAbs * Nat.gcd A B ≤ A
  ls1 : s.natAbs ≤ B + 1
  lt1 : t.natAbs ≤ A + 1
theorem Ext.fin {A B r : Nat} {s t s2 t2 : Int} (h : Ext A B r s t 0 s2 t2) : Bez A B s t := by
  obtain ⟨e1, e2, b1, b2, o1, o2, gc, ls, lt, ls2, lt2, lr, lr2, ph⟩ := h
  rw [Nat.gcd_zero_right] at gc
  subst gc
  refine ⟨e1, fun hB => ?_, fun hA hB => ?_, fun hA hB => ?_, fun hA hB => ?_, ls, lt⟩
  · rcases ph with ⟨_, rfl, rfl, _⟩ | ⟨hr, h1, h2⟩
    · exact ⟨rfl, rfl⟩
    · subst hB
      have : s2.natAbs = 0 := by
        rcases Nat.eq_zero_or_pos s2.natAbs with h | h
        · exact h
        · have := Nat.mul_pos h hr; omega
      have hs : s = 0 := by omega
      rw [hs] at e1
      simp at e1
      omega
  · subst hA
    rcases ph with ⟨_, _, _, rfl, _⟩ | ⟨hr, h1, h2 | ⟨rfl, _, rfl, _⟩⟩
    · exact absurd rfl hB
    · have ht2 : t2.natAbs = 0 := by
        rcases Nat.eq_zero_or_pos t2.natAbs with h | h
        · exact h
        · have := Nat.mul_pos h hr; omega
      have ht : t = 0 := by omega
      rw [ht] at e1; simp at e1; omega
    · exact ⟨rfl, rfl⟩
  · rcases ph with ⟨_, _, _, rfl, _⟩ | ⟨hr, h1, h2⟩
    · exact absurd rfl hB
    · have := Nat.mul_le_mul_right (Nat.gcd A B) h1; omega
  · rcases ph with ⟨_, _, _, rfl, _⟩ | ⟨hr, h1, h2 | ⟨_, _, _, _, _, rfl⟩⟩
    · exact absurd rfl hB
    · have := Nat.mul_le_mul_right (Nat.gcd A B) h2; omega
    · exact absurd rfl hA
theorem bez {A B : Nat} : ∀ (r2 r : Nat) (s t s2 t2 : Int), Ext A B r s t r2 s2 t2 → Bez A B (ext r s t r2 s2 t2).1 (ext r s t r2 s2 t2).2 := by
  intro r2
  induction r2 using Nat.strongRecOn with
  | _ r2 ih =>
    intro r s t s2 t2 h
    by_cases h0 : r2 = 0
    · subst h0; rw [ext_zero]; exact h.fin
    · rw [ext_step _ _ _ _ _ _ h0]
      exact ih _ (Nat.mod_lt _ (by omega)) _ _ _ _ _ (h.step h0)


theorem isz_of {z : Int} {N k : Nat} (h : z.natAbs ≤ N) (hN : size N ≤ k) : isz z ≤ k := Nat.le_trans (size_mono h) hN
/-- the parts of an integer -/
def intL (z : Int) : List AV := [.f (.bool (decide (z < 0))), nat z.natAbs]
def zL : List AV := [.f (.bool false), .f (.sl 1 (fun _ => [.int .u32 0]) 0 (some 0))]
/-- a boxed variable: its pointer, and its block -/
def bp (k : Nat) : Nat × AV := (k, .lptr k 1 2 0 0)
def bx (k : Nat) (xs : List AV) : Nat × Nat × Blk := (k, 1, .vr xs)

/-- what a Bezout pair is -/
structure BezZ (a b X Y : Int) : Prop where
  e : a * X + b * Y = (Nat.gcd a.natAbs b.natAbs : Nat)
  b0 : b = 0 → Y = 0 ∧ X.natAbs = 1
  a0 : a = 0 → b ≠ 0 → X = 0 ∧ Y.natAbs = 1
  ls : a ≠ 0 → b ≠ 0 → X.natAbs * Nat.gcd a.natAbs b.natAbs ≤ b.natAbs
  lt : a ≠ 0 → b ≠ 0 → Y.natAbs * Nat.gcd a.natAbs b.natAbs ≤ a.natAbs
  ls1 : X.natAbs ≤ b.natAbs + 1
  lt1 : Y.natAbs ≤ a.natAbs + 1
theorem Bez.signed {A B : Nat} {s t : Int} (h : Bez A B s t) (na nb : Bool) :
    BezZ (ival na A) (ival nb B) (if na = true then -s else s) (if nb = true then -t else t) := by
  obtain ⟨e, b0, a0, ls, lt, ls1, lt1⟩ := h
  have z : ∀ (n : Bool) (N : Nat), ival n N = 0 ↔ N = 0 := fun n N => by cases n <;> simp [ival]
  have f : ∀ (n : Bool) (z : Int), (if n = true then -z else z).natAbs = z.natAbs := fun n z => by cases n <;> simp
  have g : ∀ (n : Bool) (N : Nat) (z : Int), ival n N * (if n = true then -z else z) = N * z := fun n N z => by cases n <;> simp [ival, Int.neg_mul_neg]
  refine ⟨?_, ?_, ?_, ?_, ?_, ?_, ?_⟩ <;> simp only [ival_abs, z, f, g, ne_eq]
  · exact e
  · intro hB; obtain ⟨rfl, rfl⟩ := b0 hB; simp
  · intro hA hB; obtain ⟨rfl, rfl⟩ := a0 hA hB; simp
  · exact ls
  · exact lt
  · exact ls1
  · exact lt1

theorem iExtended_ok {x y : AV} {a b : Int} {s t : Nat} (ha : IsI x a s) (hb : IsI y b t) (hs : s ≤ 1099511627776) (ht : t ≤ 1099511627776) :
    ∃ X Y : Int, ACall Try.prog 37 [x, y] (.tup [int (Nat.gcd a.natAbs b.natAbs : Nat), int X, int Y]) ∧ BezZ a b X Y := by
  have b1 := iAbs_ok ha (by omega)
  have b2 := iAbs_ok hb (by omega)
  have f0 := iFromInt_ok 0 (by decide)
  have f1 := iFromInt_ok 1 (by decide)
  have sa := ha.size
  have sb := hb.size
  obtain ⟨na, g, n, _, hg, hn⟩ := ha
  obtain ⟨nb, h, m, _, hh, hm⟩ := hb
  unfold isz at sa sb
  rw [ival_abs] at sa sb b1 b2
  generalize nval g n = A at *
  generalize nval h m = B at *
  have sAB : size (A + B) ≤ 1099511627777 := Nat.le_trans (size_add2 sa sb) (by omega)
  have sA1 : size (A + 1) ≤ 1099511627777 := Nat.le_trans (size_add2 sa (t := 1) (B := 1) (by decide)) (by omega)
  have sB1 : size (B + 1) ≤ 1099511627777 := Nat.le_trans (size_add2 sb (t := 1) (B := 1) (by decide)) (by omega)
  have hE := Ext.init A B
  have hbez := bez B A 1 0 0 1 hE
  refine ⟨_, _, ?_, hbez.signed na nb⟩
  obtain ⟨S, hS⟩ : ∃ S, (ext A 1 0 B 0 1).1 = S := ⟨_, rfl⟩
  obtain ⟨R, hR⟩ : ∃ R, (ext A 1 0 B 0 1).2 = R := ⟨_, rfl⟩
  have hSR : ext A 1 0 B 0 1 = (S, R) := by rw [← hS, ← hR]
  rw [hS, hR] at hbez ⊢
  rw [ival_abs, ival_abs]
  have zS := isz_of hbez.ls1 sB1
  have zR := isz_of hbez.lt1 sA1
  have nS := iNeg_ok (isI_int S zS) (by omega)
  have nR := iNeg_ok (isI_int R zR) (by omega)
  clear hbez
  refine acall_rule env [0, 1, 2, 3, 4, 5, 6, 7, 8, 9, 10, 11, 12, 13, 14, 26, 49, 53] Try.func37 rfl rfl rfl rfl ?_
  conv => whnf
  first | refine callF b1 ⟨.refl _, trivial⟩ (by trivial) rfl ?_ | ((repeat (refine ⟨by kernel_rfl, ?_⟩; (conv => whnf))); refine callF b1 ⟨.refl _, trivial⟩ (by trivial) rfl ?_)
  conv => whnf
  first | refine callF f1 ⟨.refl _, trivial⟩ (by trivial) rfl ?_ | ((repeat (refine ⟨by kernel_rfl, ?_⟩; (conv => whnf))); refine callF f1 ⟨.refl _, trivial⟩ (by trivial) rfl ?_)
  conv => whnf
  first | refine callF f0 ⟨.refl _, trivial⟩ (by trivial) rfl ?_ | ((repeat (refine ⟨by kernel_rfl, ?_⟩; (conv => whnf))); refine callF f0 ⟨.refl _, trivial⟩ (by trivial) rfl ?_)
  conv => whnf
  first | refine callF b2 ⟨.refl _, trivial⟩ (by trivial) rfl ?_ | ((repeat (refine ⟨by kernel_rfl, ?_⟩; (conv => whnf))); refine callF b2 ⟨.refl _, trivial⟩ (by trivial) rfl ?_)
  conv => whnf
  first | refine callF f0 ⟨.refl _, trivial⟩ (by trivial) rfl ?_ | ((repeat (refine ⟨by kernel_rfl, ?_⟩; (conv => whnf))); refine callF f0 ⟨.refl _, trivial⟩ (by trivial) rfl ?_)
  conv => whnf
  first | refine callF f1 ⟨.refl _, trivial⟩ (by trivial) rfl ?_ | ((repeat (refine ⟨by kernel_rfl, ?_⟩; (conv => whnf))); refine callF f1 ⟨.refl _, trivial⟩ (by trivial) rfl ?_)
  conv => whnf
  refine loop_mod [2, 3, 4, 5, 6, 7, 8, 9, 10, 11, 12] [2, 3, 4, 5, 6, 7, 8, 9, 10, 11, 12] [2, 3, 4, 5, 6, 7, 8, 9] [2, 3, 4, 5, 6, 7, 8, 9]
    (fun μ fr hp => ∃ (r : Nat) (s t : Int) (r2 : Nat) (s2 t2 : Int), fr = [bp 2, bp 3, bp 4, bp 5, bp 6, bp 7, bp 8, bp 9, bp 10, bp 11, bp 12]
      ∧ hp = [bx 2 [.f (.bool na), raw g n], bx 3 [.f (.bool nb), raw h m], bx 4 zL, bx 5 zL, bx 6 zL, bx 7 (intL r), bx 8 (intL s), bx 9 (intL t), bx 10 (intL r2), bx 11 (intL s2), bx 12 (intL t2)]
      ∧ μ = r2 ∧ Ext A B r s t r2 s2 t2 ∧ ext r s t r2 s2 t2 = (S, R))
    (fun e fr hp => e = .exit 0 ∧ fr = [bp 2, bp 3, bp 4, bp 5, bp 6, bp 7, bp 8, bp 9]
      ∧ hp = [bx 2 [.f (.bool na), raw g n], bx 3 [.f (.bool nb), raw h m], bx 4 zL, bx 5 zL, bx 6 zL, bx 7 (intL (Nat.gcd A B : Nat)), bx 8 (intL S), bx 9 (intL R)])
    ⟨_, _, _, _, rfl, ?_, A, 1, 0, B, 0, 1, rfl, rfl, rfl, hE, hSR⟩ ?_ ?_
  · refine .refl _
  · rintro _ _ _ ⟨rfl, rfl, rfl⟩
    cases na <;> cases nb
    · conv => whnf
      (repeat (refine ⟨by kernel_rfl, ?_⟩; (conv => whnf)))
      refine ⟨(by (try simp only [true_and, and_true, Nat.sub_zero, Nat.zero_add, Int.toNat_natCast]) <;> omega), ?_⟩
      exact .refl _
    · conv => whnf
      first | refine callF nR ⟨.refl _, trivial⟩ (by trivial) rfl ?_ | ((repeat (refine ⟨by kernel_rfl, ?_⟩; (conv => whnf))); refine callF nR ⟨.refl _, trivial⟩ (by trivial) rfl ?_)
      conv => whnf
      (repeat (refine ⟨by kernel_rfl, ?_⟩; (conv => whnf)))
      refine ⟨(by (try simp only [true_and, and_true, Nat.sub_zero, Nat.zero_add, Int.toNat_natCast]) <;> omega), ?_⟩
      exact .refl _
    · conv => whnf
      first | refine callF nS ⟨.refl _, trivial⟩ (by trivial) rfl ?_ | ((repeat (refine ⟨by kernel_rfl, ?_⟩; (conv => whnf))); refine callF nS ⟨.refl _, trivial⟩ (by trivial) rfl ?_)
      conv => whnf
      (repeat (refine ⟨by kernel_rfl, ?_⟩; (conv => whnf)))
      refine ⟨(by (try simp only [true_and, and_true, Nat.sub_zero, Nat.zero_add, Int.toNat_natCast]) <;> omega), ?_⟩
      exact .refl _
    · conv => whnf
      first | refine callF nS ⟨.refl _, trivial⟩ (by trivial) rfl ?_ | ((repeat (refine ⟨by kernel_rfl, ?_⟩; (conv => whnf))); refine callF nS ⟨.refl _, trivial⟩ (by trivial) rfl ?_)
      conv => whnf
      first | refine callF nR ⟨.refl _, trivial⟩ (by trivial) rfl ?_ | ((repeat (refine ⟨by kernel_rfl, ?_⟩; (conv => whnf))); refine callF nR ⟨.refl _, trivial⟩ (by trivial) rfl ?_)
      conv => whnf
      (repeat (refine ⟨by kernel_rfl, ?_⟩; (conv => whnf)))
      refine ⟨(by (try simp only [true_and, and_true, Nat.sub_zero, Nat.zero_add, Int.toNat_natCast]) <;> omega), ?_⟩
      exact .refl _
  rintro r2 _ _ ⟨r, s', t', _, s2, t2, rfl, rfl, rfl, hI, hx⟩
  have zr := isz_of (z := (r : Nat)) hI.lr sAB
  have zr2 := isz_of (z := (r2 : Nat)) hI.lr2 sAB
  have zs := isz_of hI.ls sB1
  have zt := isz_of hI.lt sA1
  have zs2 := isz_of hI.ls2 sB1
  have zt2 := isz_of hI.lt2 sA1
  have z1 := izero_ok (isI_int (r2 : Nat) zr2) (by omega)
  by_cases h0 : r2 = 0
  · subst h0
    rw [ext_zero] at hx
    obtain ⟨rfl, rfl⟩ := Prod.mk.inj hx
    have hG : r = Nat.gcd A B := by rw [← hI.gc, Nat.gcd_zero_right]
    subst hG
    conv => whnf
    first | refine callF z1 ⟨.refl _, trivial⟩ (by trivial) rfl ?_ | ((repeat (refine ⟨by kernel_rfl, ?_⟩; (conv => whnf))); refine callF z1 ⟨.refl _, trivial⟩ (by trivial) rfl ?_)
    conv => whnf
    refine ⟨_, _, _, rfl, ?_, rfl, rfl, rfl⟩
    refine .refl _
  · have d1 := iDivMod_ok (isI_int (r : Nat) zr) (isI_int (r2 : Nat) zr2) (by omega) (by omega)
    unfold idivRes at d1
    rw [if_neg (by omega), (ediv_pos r r2).1, (ediv_pos r r2).2] at d1
    have zq : isz ((r / r2 : Nat) : Int) ≤ 1099511627777 := isz_of (N := A + B) (by rw [Int.natAbs_natCast]; exact Nat.le_trans (Nat.div_le_self _ _) hI.lr) sAB
    have mq := isz_mul zq zs2
    have mt := isz_mul zq zt2
    have m1 := iMul_ok (isI_int _ zq) (isI_int _ zs2) (by omega)
    have s1 := iSub_ok (isI_int _ zs) (isI_int _ mq) (by omega) (by omega)
    have m2 := iMul_ok (isI_int _ zq) (isI_int _ zt2) (by omega)
    have s2 := iSub_ok (isI_int _ zt) (isI_int _ mt) (by omega) (by omega)
    have hstep := hI.step h0
    rw [ext_step _ _ _ _ _ _ h0] at hx
    have hz : decide ((r2 : Int) = 0) = false := by simp [h0]
    rw [hz] at z1
    have hlt : r % r2 < r2 := Nat.mod_lt _ (by omega)
    conv => whnf
    first | refine callF z1 ⟨.refl _, trivial⟩ (by trivial) rfl ?_ | ((repeat (refine ⟨by kernel_rfl, ?_⟩; (conv => whnf))); refine callF z1 ⟨.refl _, trivial⟩ (by trivial) rfl ?_)
    conv => whnf
    first | refine callF d1 ⟨.refl _, .refl _, trivial⟩ (by trivial) rfl ?_ | ((repeat (refine ⟨by kernel_rfl, ?_⟩; (conv => whnf))); refine callF d1 ⟨.refl _, .refl _, trivial⟩ (by trivial) rfl ?_)
    conv => whnf
    first | refine callF m1 ⟨.refl _, .refl _, trivial⟩ (by trivial) rfl ?_ | ((repeat (refine ⟨by kernel_rfl, ?_⟩; (conv => whnf))); refine callF m1 ⟨.refl _, .refl _, trivial⟩ (by trivial) rfl ?_)
    conv => whnf
    first | refine callF s1 ⟨.refl _, .refl _, trivial⟩ (by trivial) rfl ?_ | ((repeat (refine ⟨by kernel_rfl, ?_⟩; (conv => whnf))); refine callF s1 ⟨.refl _, .refl _, trivial⟩ (by trivial) rfl ?_)
    conv => whnf
    first | refine callF m2 ⟨.refl _, .refl _, trivial⟩ (by trivial) rfl ?_ | ((repeat (refine ⟨by kernel_rfl, ?_⟩; (conv => whnf))); refine callF m2 ⟨.refl _, .refl _, trivial⟩ (by trivial) rfl ?_)
    conv => whnf
    first | refine callF s2 ⟨.refl _, .refl _, trivial⟩ (by trivial) rfl ?_ | ((repeat (refine ⟨by kernel_rfl, ?_⟩; (conv => whnf))); refine callF s2 ⟨.refl _, .refl _, trivial⟩ (by trivial) rfl ?_)
    conv => whnf
    refine ⟨by kernel_rfl, ?_⟩
    conv => whnf
    exact ⟨_, hlt, _, _, _, rfl, .refl _, _, _, _, _, _, _, rfl, rfl, rfl, hstep, hx⟩
end Go.Abs

/- The law of Bezout's coefficients. -/
set_option autoImplicit false
set_option maxHeartbeats 4000000
set_option maxRecDepth 10000
set_option linter.unusedVariables false
set_option linter.unusedSimpArgs false
namespace Go.Abs
open Go Go.Proofs

theorem icmp_le {a b : Int} (h : a ≤ b) : icmp a b ≤ 0 := by unfold icmp; repeat' split
                                                             all_goals omega
theorem icmp_eq {a b : Int} (h : a = b) : icmp a b = 0 := by unfold icmp; repeat' split
                                                             all_goals omega
theorem sgn_zero' {a : Int} : (sgn a = 0) ↔ a = 0 := by unfold sgn; repeat' split
                                                        all_goals omega
theorem Bezout_ok {x y : AV} {a b X Y : Int} {s t : Nat} (ha : IsI x a s) (hb : IsI y b t) (hs : s ≤ 1099511627776) (ht : t ≤ 1099511627776) (hz : BezZ a b X Y) :
    ACall Try.prog 39 [x, y, int (Nat.gcd a.natAbs b.natAbs : Nat), int X, int Y] (.f (.bool true)) := by
  have sa : isz a ≤ 1099511627776 := Nat.le_trans ha.size hs
  have sb : isz b ≤ 1099511627776 := Nat.le_trans hb.size ht
  have sA1 : size (a.natAbs + 1) ≤ 1099511627777 := Nat.le_trans (size_add2 sa (t := 1) (B := 1) (by decide)) (by omega)
  have sB1 : size (b.natAbs + 1) ≤ 1099511627777 := Nat.le_trans (size_add2 sb (t := 1) (B := 1) (by decide)) (by omega)
  have sX := isz_of hz.ls1 sB1
  have sY := isz_of hz.lt1 sA1
  have sG := isz_gcd sa sb
  have r1 := rGCD_ok ha hb (by omega) (by omega)
  obtain ⟨G, hG⟩ : ∃ G : Nat, Nat.gcd a.natAbs b.natAbs = G := ⟨_, rfl⟩
  obtain ⟨e, b0, a0, ls, lt, _, _⟩ := hz
  rw [hG] at r1 sG e ls lt ⊢
  have e1 := rEqual_same (G : Nat) (by omega)
  have c1 := rCanonical_int X (by omega)
  have c2 := rCanonical_int Y (by omega)
  have maX := isz_mul sa sX
  have mbY := isz_mul sb sY
  have m1 := rMul_ok ha (isI_int X sX) (by omega)
  have m2 := rMul_ok hb (isI_int Y sY) (by omega)
  have a1 := rAdd_ok (isI_int (a * X) maX) (isI_int (b * Y) mbY) (by omega) (by omega)
  rw [e] at a1
  have k1 := rCompare_ok (isI_int (G : Nat) sG) (isI_int (G : Nat) sG) (by omega) (by omega)
  rw [icmp_eq rfl] at k1
  have f1 := rFromInt_ok 1 (by decide)
  have g1 := rSign_ok hb (by omega)
  have g2 := rSign_ok ha (by omega)
  have gX := rSign_ok (isI_int X sX) (by omega)
  have gY := rSign_ok (isI_int Y sY) (by omega)
  have bX := rAbs_ok (isI_int X sX) (by omega)
  have bY := rAbs_ok (isI_int Y sY) (by omega)
  have ba := rAbs_ok ha (by omega)
  have bb := rAbs_ok hb (by omega)
  have sX' : isz (X.natAbs : Nat) ≤ 1099511627777 := by rw [isz_abs]; exact sX
  have sY' : isz (Y.natAbs : Nat) ≤ 1099511627777 := by rw [isz_abs]; exact sY
  have sa' : isz (a.natAbs : Nat) ≤ 1099511627776 := by rw [isz_abs]; exact sa
  have sb' : isz (b.natAbs : Nat) ≤ 1099511627776 := by rw [isz_abs]; exact sb
  have s1 : isz 1 ≤ 1 := by decide
  by_cases hb0 : b = 0
  · obtain ⟨hY, hX⟩ := b0 hb0
    rw [sgn_zero'.2 hb0] at g1
    rw [sgn_zero'.2 hY] at gY
    rw [hX] at bX
    have k2 := rCompare_ok (isI_int (1 : Nat) s1) (isI_int 1 s1) (by omega) (by omega)
    rw [icmp_eq (by rfl)] at k2
    obtain ⟨na, ga, n, _, hga, hn⟩ := ha
    obtain ⟨nb, gb, m, _, hgb, hm⟩ := hb
    refine acall_rule env [0, 1, 2, 3, 4, 5, 6, 7, 8, 9, 10, 11, 39, 41, 55] Try.func39 rfl rfl rfl rfl ?_
    conv => whnf
    first | refine callF r1 ⟨.refl _, .refl _, trivial⟩ (by trivial) rfl ?_ | ((repeat (refine ⟨by kernel_rfl, ?_⟩; (conv => whnf))); refine callF r1 ⟨.refl _, .refl _, trivial⟩ (by trivial) rfl ?_)
    conv => whnf
    first | refine callF e1 ⟨.refl _, .refl _, trivial⟩ (by trivial) rfl ?_ | ((repeat (refine ⟨by kernel_rfl, ?_⟩; (conv => whnf))); refine callF e1 ⟨.refl _, .refl _, trivial⟩ (by trivial) rfl ?_)
    conv => whnf
    first | refine callF c1 ⟨.refl _, trivial⟩ (by trivial) rfl ?_ | ((repeat (refine ⟨by kernel_rfl, ?_⟩; (conv => whnf))); refine callF c1 ⟨.refl _, trivial⟩ (by trivial) rfl ?_)
    conv => whnf
    first | refine callF c2 ⟨.refl _, trivial⟩ (by trivial) rfl ?_ | ((repeat (refine ⟨by kernel_rfl, ?_⟩; (conv => whnf))); refine callF c2 ⟨.refl _, trivial⟩ (by trivial) rfl ?_)
    conv => whnf
    first | refine callF m1 ⟨.refl _, .refl _, trivial⟩ (by trivial) rfl ?_ | ((repeat (refine ⟨by kernel_rfl, ?_⟩; (conv => whnf))); refine callF m1 ⟨.refl _, .refl _, trivial⟩ (by trivial) rfl ?_)
    conv => whnf
    first | refine callF m2 ⟨.refl _, .refl _, trivial⟩ (by trivial) rfl ?_ | ((repeat (refine ⟨by kernel_rfl, ?_⟩; (conv => whnf))); refine callF m2 ⟨.refl _, .refl _, trivial⟩ (by trivial) rfl ?_)
    conv => whnf
    first | refine callF a1 ⟨.refl _, .refl _, trivial⟩ (by trivial) rfl ?_ | ((repeat (refine ⟨by kernel_rfl, ?_⟩; (conv => whnf))); refine callF a1 ⟨.refl _, .refl _, trivial⟩ (by trivial) rfl ?_)
    conv => whnf
    first | refine callF k1 ⟨.refl _, .refl _, trivial⟩ (by trivial) rfl ?_ | ((repeat (refine ⟨by kernel_rfl, ?_⟩; (conv => whnf))); refine callF k1 ⟨.refl _, .refl _, trivial⟩ (by trivial) rfl ?_)
    conv => whnf
    first | refine callF f1 ⟨.refl _, trivial⟩ (by trivial) rfl ?_ | ((repeat (refine ⟨by kernel_rfl, ?_⟩; (conv => whnf))); refine callF f1 ⟨.refl _, trivial⟩ (by trivial) rfl ?_)
    conv => whnf
    first | refine callF g1 ⟨.refl _, trivial⟩ (by trivial) rfl ?_ | ((repeat (refine ⟨by kernel_rfl, ?_⟩; (conv => whnf))); refine callF g1 ⟨.refl _, trivial⟩ (by trivial) rfl ?_)
    conv => whnf
    first | refine callF gY ⟨.refl _, trivial⟩ (by trivial) rfl ?_ | ((repeat (refine ⟨by kernel_rfl, ?_⟩; (conv => whnf))); refine callF gY ⟨.refl _, trivial⟩ (by trivial) rfl ?_)
    conv => whnf
    first | refine callF bX ⟨.refl _, trivial⟩ (by trivial) rfl ?_ | ((repeat (refine ⟨by kernel_rfl, ?_⟩; (conv => whnf))); refine callF bX ⟨.refl _, trivial⟩ (by trivial) rfl ?_)
    conv => whnf
    first | refine callF k2 ⟨.refl _, .refl _, trivial⟩ (by trivial) rfl ?_ | ((repeat (refine ⟨by kernel_rfl, ?_⟩; (conv => whnf))); refine callF k2 ⟨.refl _, .refl _, trivial⟩ (by trivial) rfl ?_)
    conv => whnf
    (repeat (refine ⟨by kernel_rfl, ?_⟩; (conv => whnf)))
    refine ⟨(by (try simp only [true_and, and_true, Nat.sub_zero, Nat.zero_add, Int.toNat_natCast]) <;> omega), ?_⟩
    exact .refl _
  have gb0 : ¬ sgn b = 0 := fun h => hb0 (sgn_zero'.1 h)
  obtain ⟨cb, hcb⟩ : ∃ c, sgn b = c := ⟨_, rfl⟩
  rw [hcb] at g1 gb0
  by_cases ha0 : a = 0
  · obtain ⟨hX, hY⟩ := a0 ha0 hb0
    rw [sgn_zero'.2 ha0] at g2
    rw [sgn_zero'.2 hX] at gX
    rw [hY] at bY
    have k2 := rCompare_ok (isI_int (1 : Nat) s1) (isI_int 1 s1) (by omega) (by omega)
    rw [icmp_eq (by rfl)] at k2
    obtain ⟨na, ga, n, _, hga, hn⟩ := ha
    obtain ⟨nb, gb, m, _, hgb, hm⟩ := hb
    refine acall_rule env [0, 1, 2, 3, 4, 5, 6, 7, 8, 9, 10, 11, 39, 41, 55] Try.func39 rfl rfl rfl rfl ?_
    conv => whnf
    first | refine callF r1 ⟨.refl _, .refl _, trivial⟩ (by trivial) rfl ?_ | ((repeat (refine ⟨by kernel_rfl, ?_⟩; (conv => whnf))); refine callF r1 ⟨.refl _, .refl _, trivial⟩ (by trivial) rfl ?_)
    conv => whnf
    first | refine callF e1 ⟨.refl _, .refl _, trivial⟩ (by trivial) rfl ?_ | ((repeat (refine ⟨by kernel_rfl, ?_⟩; (conv => whnf))); refine callF e1 ⟨.refl _, .refl _, trivial⟩ (by trivial) rfl ?_)
    conv => whnf
    first | refine callF c1 ⟨.refl _, trivial⟩ (by trivial) rfl ?_ | ((repeat (refine ⟨by kernel_rfl, ?_⟩; (conv => whnf))); refine callF c1 ⟨.refl _, trivial⟩ (by trivial) rfl ?_)
    conv => whnf
    first | refine callF c2 ⟨.refl _, trivial⟩ (by trivial) rfl ?_ | ((repeat (refine ⟨by kernel_rfl, ?_⟩; (conv => whnf))); refine callF c2 ⟨.refl _, trivial⟩ (by trivial) rfl ?_)
    conv => whnf
    first | refine callF m1 ⟨.refl _, .refl _, trivial⟩ (by trivial) rfl ?_ | ((repeat (refine ⟨by kernel_rfl, ?_⟩; (conv => whnf))); refine callF m1 ⟨.refl _, .refl _, trivial⟩ (by trivial) rfl ?_)
    conv => whnf
    first | refine callF m2 ⟨.refl _, .refl _, trivial⟩ (by trivial) rfl ?_ | ((repeat (refine ⟨by kernel_rfl, ?_⟩; (conv => whnf))); refine callF m2 ⟨.refl _, .refl _, trivial⟩ (by trivial) rfl ?_)
    conv => whnf
    first | refine callF a1 ⟨.refl _, .refl _, trivial⟩ (by trivial) rfl ?_ | ((repeat (refine ⟨by kernel_rfl, ?_⟩; (conv => whnf))); refine callF a1 ⟨.refl _, .refl _, trivial⟩ (by trivial) rfl ?_)
    conv => whnf
    first | refine callF k1 ⟨.refl _, .refl _, trivial⟩ (by trivial) rfl ?_ | ((repeat (refine ⟨by kernel_rfl, ?_⟩; (conv => whnf))); refine callF k1 ⟨.refl _, .refl _, trivial⟩ (by trivial) rfl ?_)
    conv => whnf
    first | refine callF f1 ⟨.refl _, trivial⟩ (by trivial) rfl ?_ | ((repeat (refine ⟨by kernel_rfl, ?_⟩; (conv => whnf))); refine callF f1 ⟨.refl _, trivial⟩ (by trivial) rfl ?_)
    conv => whnf
    first | refine callF g1 ⟨.refl _, trivial⟩ (by trivial) rfl ?_ | ((repeat (refine ⟨by kernel_rfl, ?_⟩; (conv => whnf))); refine callF g1 ⟨.refl _, trivial⟩ (by trivial) rfl ?_)
    conv => whnf
    refine splF (by simp only [decide_eq_true_eq, decide_eq_false_iff_not, Bool.not_eq_true', Bool.not_eq_false', gt_iff_lt, ge_iff_le] <;> omega) ?_
    conv => whnf
    first | refine callF g2 ⟨.refl _, trivial⟩ (by trivial) rfl ?_ | ((repeat (refine ⟨by kernel_rfl, ?_⟩; (conv => whnf))); refine callF g2 ⟨.refl _, trivial⟩ (by trivial) rfl ?_)
    conv => whnf
    first | refine callF gX ⟨.refl _, trivial⟩ (by trivial) rfl ?_ | ((repeat (refine ⟨by kernel_rfl, ?_⟩; (conv => whnf))); refine callF gX ⟨.refl _, trivial⟩ (by trivial) rfl ?_)
    conv => whnf
    first | refine callF bY ⟨.refl _, trivial⟩ (by trivial) rfl ?_ | ((repeat (refine ⟨by kernel_rfl, ?_⟩; (conv => whnf))); refine callF bY ⟨.refl _, trivial⟩ (by trivial) rfl ?_)
    conv => whnf
    first | refine callF k2 ⟨.refl _, .refl _, trivial⟩ (by trivial) rfl ?_ | ((repeat (refine ⟨by kernel_rfl, ?_⟩; (conv => whnf))); refine callF k2 ⟨.refl _, .refl _, trivial⟩ (by trivial) rfl ?_)
    conv => whnf
    (repeat (refine ⟨by kernel_rfl, ?_⟩; (conv => whnf)))
    refine ⟨(by (try simp only [true_and, and_true, Nat.sub_zero, Nat.zero_add, Int.toNat_natCast]) <;> omega), ?_⟩
    exact .refl _
  have ga0 : ¬ sgn a = 0 := fun h => ha0 (sgn_zero'.1 h)
  obtain ⟨ca, hca⟩ : ∃ c, sgn a = c := ⟨_, rfl⟩
  rw [hca] at g2 ga0
  have mXG := isz_mul sX' sG
  have mYG := isz_mul sY' sG
  have m3 := rMul_ok (isI_int _ sX') (isI_int _ sG) (by omega)
  have m4 := rMul_ok (isI_int _ sY') (isI_int _ sG) (by omega)
  have k2 := rCompare_ok (isI_int _ mXG) (isI_int _ sb') (by omega) (by omega)
  have k3 := rCompare_ok (isI_int _ mYG) (isI_int _ sa') (by omega) (by omega)
  have l2 := icmp_le (a := (X.natAbs : Int) * G) (b := b.natAbs) (by have := ls ha0 hb0; exact_mod_cast this)
  have l3 := icmp_le (a := (Y.natAbs : Int) * G) (b := a.natAbs) (by have := lt ha0 hb0; exact_mod_cast this)
  obtain ⟨c2', hc2⟩ : ∃ c, icmp ((X.natAbs : Int) * G) b.natAbs = c := ⟨_, rfl⟩
  obtain ⟨c3', hc3⟩ : ∃ c, icmp ((Y.natAbs : Int) * G) a.natAbs = c := ⟨_, rfl⟩
  rw [hc2] at k2 l2
  rw [hc3] at k3 l3
  obtain ⟨na, ga, n, _, hga, hn⟩ := ha
  obtain ⟨nb, gb, m, _, hgb, hm⟩ := hb
  refine acall_rule env [0, 1, 2, 3, 4, 5, 6, 7, 8, 9, 10, 11, 39, 41, 55] Try.func39 rfl rfl rfl rfl ?_
  conv => whnf
  first | refine callF r1 ⟨.refl _, .refl _, trivial⟩ (by trivial) rfl ?_ | ((repeat (refine ⟨by kernel_rfl, ?_⟩; (conv => whnf))); refine callF r1 ⟨.refl _, .refl _, trivial⟩ (by trivial) rfl ?_)
  conv => whnf
  first | refine callF e1 ⟨.refl _, .refl _, trivial⟩ (by trivial) rfl ?_ | ((repeat (refine ⟨by kernel_rfl, ?_⟩; (conv => whnf))); refine callF e1 ⟨.refl _, .refl _, trivial⟩ (by trivial) rfl ?_)
  conv => whnf
  first | refine callF c1 ⟨.refl _, trivial⟩ (by trivial) rfl ?_ | ((repeat (refine ⟨by kernel_rfl, ?_⟩; (conv => whnf))); refine callF c1 ⟨.refl _, trivial⟩ (by trivial) rfl ?_)
  conv => whnf
  first | refine callF c2 ⟨.refl _, trivial⟩ (by trivial) rfl ?_ | ((repeat (refine ⟨by kernel_rfl, ?_⟩; (conv => whnf))); refine callF c2 ⟨.refl _, trivial⟩ (by trivial) rfl ?_)
  conv => whnf
  first | refine callF m1 ⟨.refl _, .refl _, trivial⟩ (by trivial) rfl ?_ | ((repeat (refine ⟨by kernel_rfl, ?_⟩; (conv => whnf))); refine callF m1 ⟨.refl _, .refl _, trivial⟩ (by trivial) rfl ?_)
  conv => whnf
  first | refine callF m2 ⟨.refl _, .refl _, trivial⟩ (by trivial) rfl ?_ | ((repeat (refine ⟨by kernel_rfl, ?_⟩; (conv => whnf))); refine callF m2 ⟨.refl _, .refl _, trivial⟩ (by trivial) rfl ?_)
  conv => whnf
  first | refine callF a1 ⟨.refl _, .refl _, trivial⟩ (by trivial) rfl ?_ | ((repeat (refine ⟨by kernel_rfl, ?_⟩; (conv => whnf))); refine callF a1 ⟨.refl _, .refl _, trivial⟩ (by trivial) rfl ?_)
  conv => whnf
  first | refine callF k1 ⟨.refl _, .refl _, trivial⟩ (by trivial) rfl ?_ | ((repeat (refine ⟨by kernel_rfl, ?_⟩; (conv => whnf))); refine callF k1 ⟨.refl _, .refl _, trivial⟩ (by trivial) rfl ?_)
  conv => whnf
  first | refine callF f1 ⟨.refl _, trivial⟩ (by trivial) rfl ?_ | ((repeat (refine ⟨by kernel_rfl, ?_⟩; (conv => whnf))); refine callF f1 ⟨.refl _, trivial⟩ (by trivial) rfl ?_)
  conv => whnf
  first | refine callF g1 ⟨.refl _, trivial⟩ (by trivial) rfl ?_ | ((repeat (refine ⟨by kernel_rfl, ?_⟩; (conv => whnf))); refine callF g1 ⟨.refl _, trivial⟩ (by trivial) rfl ?_)
  conv => whnf
  refine splF (by simp only [decide_eq_true_eq, decide_eq_false_iff_not, Bool.not_eq_true', Bool.not_eq_false', gt_iff_lt, ge_iff_le] <;> omega) ?_
  conv => whnf
  first | refine callF g2 ⟨.refl _, trivial⟩ (by trivial) rfl ?_ | ((repeat (refine ⟨by kernel_rfl, ?_⟩; (conv => whnf))); refine callF g2 ⟨.refl _, trivial⟩ (by trivial) rfl ?_)
  conv => whnf
  refine splF (by simp only [decide_eq_true_eq, decide_eq_false_iff_not, Bool.not_eq_true', Bool.not_eq_false', gt_iff_lt, ge_iff_le] <;> omega) ?_
  conv => whnf
  first | refine callF bX ⟨.refl _, trivial⟩ (by trivial) rfl ?_ | ((repeat (refine ⟨by kernel_rfl, ?_⟩; (conv => whnf))); refine callF bX ⟨.refl _, trivial⟩ (by trivial) rfl ?_)
  conv => whnf
  first | refine callF m3 ⟨.refl _, .refl _, trivial⟩ (by trivial) rfl ?_ | ((repeat (refine ⟨by kernel_rfl, ?_⟩; (conv => whnf))); refine callF m3 ⟨.refl _, .refl _, trivial⟩ (by trivial) rfl ?_)
  conv => whnf
  first | refine callF bb ⟨.refl _, trivial⟩ (by trivial) rfl ?_ | ((repeat (refine ⟨by kernel_rfl, ?_⟩; (conv => whnf))); refine callF bb ⟨.refl _, trivial⟩ (by trivial) rfl ?_)
  conv => whnf
  first | refine callF k2 ⟨.refl _, .refl _, trivial⟩ (by trivial) rfl ?_ | ((repeat (refine ⟨by kernel_rfl, ?_⟩; (conv => whnf))); refine callF k2 ⟨.refl _, .refl _, trivial⟩ (by trivial) rfl ?_)
  conv => whnf
  refine splT (by simp only [decide_eq_true_eq, decide_eq_false_iff_not, Bool.not_eq_true', Bool.not_eq_false', gt_iff_lt, ge_iff_le] <;> omega) ?_
  conv => whnf
  first | refine callF bY ⟨.refl _, trivial⟩ (by trivial) rfl ?_ | ((repeat (refine ⟨by kernel_rfl, ?_⟩; (conv => whnf))); refine callF bY ⟨.refl _, trivial⟩ (by trivial) rfl ?_)
  conv => whnf
  first | refine callF m4 ⟨.refl _, .refl _, trivial⟩ (by trivial) rfl ?_ | ((repeat (refine ⟨by kernel_rfl, ?_⟩; (conv => whnf))); refine callF m4 ⟨.refl _, .refl _, trivial⟩ (by trivial) rfl ?_)
  conv => whnf
  first | refine callF ba ⟨.refl _, trivial⟩ (by trivial) rfl ?_ | ((repeat (refine ⟨by kernel_rfl, ?_⟩; (conv => whnf))); refine callF ba ⟨.refl _, trivial⟩ (by trivial) rfl ?_)
  conv => whnf
  first | refine callF k3 ⟨.refl _, .refl _, trivial⟩ (by trivial) rfl ?_ | ((repeat (refine ⟨by kernel_rfl, ?_⟩; (conv => whnf))); refine callF k3 ⟨.refl _, .refl _, trivial⟩ (by trivial) rfl ?_)
  conv => whnf
  (repeat (refine ⟨by kernel_rfl, ?_⟩; (conv => whnf)))
  refine ⟨(by (try simp only [true_and, and_true, Nat.sub_zero, Nat.zero_add, Int.toNat_natCast]) <;> omega), ?_⟩
  exact .bool_of (decide_eq_true l3)

theorem IntegerExtended_ok {x y : AV} {a b : Int} {s t : Nat} (ha : IsI x a s) (hb : IsI y b t) (hs : s ≤ 1099511627776) (ht : t ≤ 1099511627776) :
    ACall Try.prog 10 [x, y] (.f (.bool true)) := by
  obtain ⟨X, Y, e1, hz⟩ := iExtended_ok ha hb hs ht
  have g1 := iGCD_ok ha hb (by omega) (by omega)
  have g2 := rGCD_ok ha hb (by omega) (by omega)
  have q1 := rEqual_same (Nat.gcd a.natAbs b.natAbs : Nat) (Nat.le_trans (isz_gcd (Nat.le_trans ha.size hs) (Nat.le_trans hb.size ht)) (by omega))
  have z1 := Bezout_ok ha hb hs ht hz
  obtain ⟨G, hG⟩ : ∃ G : Nat, Nat.gcd a.natAbs b.natAbs = G := ⟨_, rfl⟩
  rw [hG] at e1 g1 g2 q1 z1
  obtain ⟨na, ga, n, _, hga, hn⟩ := ha
  obtain ⟨nb, gb, m, _, hgb, hm⟩ := hb
  refine acall_rule env [0, 1, 2, 3, 4, 5, 6, 7] Try.func10 rfl rfl rfl rfl ?_
  conv => whnf
  first | refine callF e1 ⟨.refl _, .refl _, trivial⟩ (by trivial) rfl ?_ | ((repeat (refine ⟨by kernel_rfl, ?_⟩; (conv => whnf))); refine callF e1 ⟨.refl _, .refl _, trivial⟩ (by trivial) rfl ?_)
  conv => whnf
  first | refine callF awake2_ok trivial (by trivial) rfl ?_ | ((repeat (refine ⟨by kernel_rfl, ?_⟩; (conv => whnf))); refine callF awake2_ok trivial (by trivial) rfl ?_)
  conv => whnf
  first | refine callF g1 ⟨.refl _, .refl _, trivial⟩ (by trivial) rfl ?_ | ((repeat (refine ⟨by kernel_rfl, ?_⟩; (conv => whnf))); refine callF g1 ⟨.refl _, .refl _, trivial⟩ (by trivial) rfl ?_)
  conv => whnf
  first | refine callF g2 ⟨.refl _, .refl _, trivial⟩ (by trivial) rfl ?_ | ((repeat (refine ⟨by kernel_rfl, ?_⟩; (conv => whnf))); refine callF g2 ⟨.refl _, .refl _, trivial⟩ (by trivial) rfl ?_)
  conv => whnf
  first | refine callF q1 ⟨.refl _, .refl _, trivial⟩ (by trivial) rfl ?_ | ((repeat (refine ⟨by kernel_rfl, ?_⟩; (conv => whnf))); refine callF q1 ⟨.refl _, .refl _, trivial⟩ (by trivial) rfl ?_)
  conv => whnf
  first | refine callF z1 ⟨.refl _, .refl _, .refl _, .refl _, .refl _, trivial⟩ (by trivial) rfl ?_ | ((repeat (refine ⟨by kernel_rfl, ?_⟩; (conv => whnf))); refine callF z1 ⟨.refl _, .refl _, .refl _, .refl _, .refl _, trivial⟩ (by trivial) rfl ?_)
  conv => whnf
  (repeat (refine ⟨by kernel_rfl, ?_⟩; (conv => whnf)))
  refine ⟨(by (try simp only [true_and, and_true, Nat.sub_zero, Nat.zero_add, Int.toNat_natCast]) <;> omega), ?_⟩
  exact .refl _
end Go.Abs

/- What comes in: lists of limbs, integers. -/
set_option autoImplicit false
set_option maxHeartbeats 4000000
set_option linter.unusedVariables false
set_option linter.unusedSimpArgs false
namespace Go.Abs
open Go Go.Proofs

theorem dec_limbs {c : List FV} {n : Nat} (h : Fits tab 22 c n) : ∃ (g : Nat → Nat) (m : Nat), Dig g m ∧ m + 1 ≤ n ∧ All2 FVle c [.sl 1 (fun j => [.int .u32 (g j : Nat)]) m none] := by
  obtain ⟨te, at_, len, bs, he, rfl, hel, hn⟩ := h.inv rfl
  have hte : te = ⟨.int .u32, 1, 4, [.int .u32 0]⟩ := by cases he; rfl
  have hx : ∀ i, i < len → ∃ x : Nat, x < 4294967296 ∧ at_ i = [.int .u32 (x : Int)] := by
    intro i hi
    have := (hel i hi).inv he
    subst hte
    obtain ⟨z, h1, h2, h3⟩ := this
    refine ⟨z.toNat, ?_, ?_⟩
    · have : z ≤ 4294967295 := h3
      have : 0 ≤ z := h2
      omega
    · have : 0 ≤ z := h2
      rw [h1, Int.toNat_of_nonneg this]
  obtain ⟨g, hg⟩ := pickF hx
  refine ⟨g, len, fun i hi => (hg i hi).1, ?_, ?_, trivial⟩
  · have := len_le_sumTo (bs := bs) (n := len) fun i hi => (hel i hi).pos
    omega
  · subst hte
    refine .sl (fun i hi => ?_) (.inl rfl)
    rw [(hg i hi).2]
    exact ⟨.refl _, trivial⟩

theorem dec_Int {c : List FV} {n : Nat} (h : Fits tab 24 c n) : ∃ (neg : Bool) (g : Nat → Nat) (m : Nat), Dig g m ∧ m + 1 ≤ n ∧ All2 FVle c [.bool neg, .sl 1 (fun j => [.int .u32 (g j : Nat)]) m none] := by
  obtain ⟨m0, hf, hn⟩ := h.inv rfl
  obtain ⟨a, b, c1, c2, h1, h2, rfl, rfl⟩ := hf.inv
  obtain ⟨a2, b2, c3, c4, h3, h4, rfl, rfl⟩ := h2.inv
  obtain ⟨rfl, rfl⟩ := h4.inv0
  obtain ⟨neg, rfl⟩ := h1.inv rfl
  obtain ⟨g, m, hg, hm, hle⟩ := dec_limbs h3
  refine ⟨neg, g, m, hg, by omega, ?_⟩
  rw [List.append_nil]
  exact ⟨.refl _, hle⟩

theorem all2_fle_fL : ∀ {c c' : List FV}, All2 FVle c c' → All2 AVle (fL c) (fL c')
  | [], [], _ => by simp [fL, All2]
  | x :: r, y :: r', ⟨a, b⟩ => by simp only [fL]; exact ⟨.f a, all2_fle_fL b⟩
  | [], _ :: _, h => h.elim
  | _ :: _, [], h => h.elim
theorem AVle.of_fL {c c' : List FV} (h : All2 FVle c c') : AVle (.agg (fL c)) (.agg (fL c')) := .agg (all2_fle_fL h)
theorem par_Int {c : List FV} {n : Nat} (h : Fits tab 24 c n) : ∃ (x : AV) (z : Int), IsI x z n ∧ AVle (.agg (fL c)) x := by
  obtain ⟨neg, g, m, hg, hm, hle⟩ := dec_Int h
  exact ⟨_, _, .mk neg g m n hg (by omega), .of_fL hle⟩
theorem par_limbs {c : FV} {n : Nat} (h : Fits tab 22 [c] n) : ∃ (g : Nat → Nat) (m : Nat), Dig g m ∧ m ≤ n ∧ AVle (.f c) (raw g m) := by
  obtain ⟨g, m, hg, hm, hle⟩ := dec_limbs h
  exact ⟨g, m, hg, by omega, .f hle.1⟩
theorem par_int {c : FV} {n : Nat} (h : Fits tab 3 [c] n) : ∃ z : Int, (-9223372036854775808 ≤ z ∧ z ≤ 9223372036854775807) ∧ AVle (.f c) (.f (.int .i64 z)) := by
  obtain ⟨z, hc, h1, h2⟩ := h.inv rfl
  cases hc
  exact ⟨z, ⟨h1, h2⟩, .refl _⟩
theorem par_int32 {c : FV} {n : Nat} (h : Fits tab 21 [c] n) : ∃ z : Int, (-2147483648 ≤ z ∧ z ≤ 2147483647) ∧ AVle (.f c) (.f (.int .i32 z)) := by
  obtain ⟨z, hc, h1, h2⟩ := h.inv rfl
  cases hc
  exact ⟨z, ⟨h1, h2⟩, .refl _⟩
end Go.Abs
