/- Contracts of the functions that the law calls, and the logic in which they are proved: part 4. -/
import Derived.Test.YtfcofbchhcojiaaPk3
/- The laws of integers, as contracts: Ring, Sums, Order, Divides, Divisors, Values, Native. -/
set_option autoImplicit false
set_option maxHeartbeats 4000000
set_option maxRecDepth 10000
set_option linter.unusedVariables false
set_option linter.unusedSimpArgs false
namespace Go.Abs
open Go Go.Proofs

theorem isz_ediv (a b : Int) : isz (a / b) ≤ isz a := size_mono (Int.natAbs_ediv_le_natAbs a b)
theorem isz_emod (a b : Int) (hb : b ≠ 0) : isz (a % b) ≤ isz b := by
  have h1 := Int.emod_nonneg a hb
  have h2 := Int.emod_lt a hb
  exact size_mono (by omega)


theorem IntegerSums_ok {x y : AV} {a b : Int} {s t : Nat} (ha : IsI x a s) (hb : IsI y b t) (hs : s ≤ 1099511627776) (ht : t ≤ 1099511627776) :
    ACall Try.prog 4 [x, y] (.f (.bool true)) := by
  have sa := ha.size
  have sb := hb.size
  have sab := isz_add sa sb
  have mab := isz_mul sa sb
  have dab := isz_sub sa sb
  have n1 := iNeg_ok ha (by omega)
  have n2 := rNeg_ok ha (by omega)
  have e1 := rEqual_same (-a) (by rw [isz_neg]; omega)
  have b1 := iAbs_ok ha (by omega)
  have b2 := rAbs_ok ha (by omega)
  have e2 := rEqual_same (a.natAbs : Nat) (by rw [isz_abs]; omega)
  have a1 := iAdd_ok ha hb (by omega) (by omega)
  have a2 := rAdd_ok ha hb (by omega) (by omega)
  have e3 := rEqual_same (a + b) (by omega)
  have s1 := iSub_ok ha hb (by omega) (by omega)
  have s2 := rSub_ok ha hb (by omega) (by omega)
  have e4 := rEqual_same (a - b) (by omega)
  have m1 := iMul_ok ha hb (by omega)
  have m2 := rMul_ok ha hb (by omega)
  have e5 := rEqual_same (a * b) (by omega)
  obtain ⟨na, g, n, _, hg, hn⟩ := ha
  obtain ⟨nb, h, m, _, hh, hm⟩ := hb
  refine acall_rule env [0, 1, 2, 3, 4] Try.func4 rfl rfl rfl rfl ?_
  conv => whnf
  first | refine callF awake2_ok trivial (by trivial) rfl ?_ | ((repeat (refine ⟨by kernel_rfl, ?_⟩; (conv => whnf))); refine callF awake2_ok trivial (by trivial) rfl ?_)
  conv => whnf
  first | refine callF n1 ⟨.refl _, trivial⟩ (by trivial) rfl ?_ | ((repeat (refine ⟨by kernel_rfl, ?_⟩; (conv => whnf))); refine callF n1 ⟨.refl _, trivial⟩ (by trivial) rfl ?_)
  conv => whnf
  first | refine callF n2 ⟨.refl _, trivial⟩ (by trivial) rfl ?_ | ((repeat (refine ⟨by kernel_rfl, ?_⟩; (conv => whnf))); refine callF n2 ⟨.refl _, trivial⟩ (by trivial) rfl ?_)
  conv => whnf
  first | refine callF e1 ⟨.refl _, .refl _, trivial⟩ (by trivial) rfl ?_ | ((repeat (refine ⟨by kernel_rfl, ?_⟩; (conv => whnf))); refine callF e1 ⟨.refl _, .refl _, trivial⟩ (by trivial) rfl ?_)
  conv => whnf
  first | refine callF b1 ⟨.refl _, trivial⟩ (by trivial) rfl ?_ | ((repeat (refine ⟨by kernel_rfl, ?_⟩; (conv => whnf))); refine callF b1 ⟨.refl _, trivial⟩ (by trivial) rfl ?_)
  conv => whnf
  first | refine callF b2 ⟨.refl _, trivial⟩ (by trivial) rfl ?_ | ((repeat (refine ⟨by kernel_rfl, ?_⟩; (conv => whnf))); refine callF b2 ⟨.refl _, trivial⟩ (by trivial) rfl ?_)
  conv => whnf
  first | refine callF e2 ⟨.refl _, .refl _, trivial⟩ (by trivial) rfl ?_ | ((repeat (refine ⟨by kernel_rfl, ?_⟩; (conv => whnf))); refine callF e2 ⟨.refl _, .refl _, trivial⟩ (by trivial) rfl ?_)
  conv => whnf
  first | refine callF a1 ⟨.refl _, .refl _, trivial⟩ (by trivial) rfl ?_ | ((repeat (refine ⟨by kernel_rfl, ?_⟩; (conv => whnf))); refine callF a1 ⟨.refl _, .refl _, trivial⟩ (by trivial) rfl ?_)
  conv => whnf
  first | refine callF a2 ⟨.refl _, .refl _, trivial⟩ (by trivial) rfl ?_ | ((repeat (refine ⟨by kernel_rfl, ?_⟩; (conv => whnf))); refine callF a2 ⟨.refl _, .refl _, trivial⟩ (by trivial) rfl ?_)
  conv => whnf
  first | refine callF e3 ⟨.refl _, .refl _, trivial⟩ (by trivial) rfl ?_ | ((repeat (refine ⟨by kernel_rfl, ?_⟩; (conv => whnf))); refine callF e3 ⟨.refl _, .refl _, trivial⟩ (by trivial) rfl ?_)
  conv => whnf
  first | refine callF s1 ⟨.refl _, .refl _, trivial⟩ (by trivial) rfl ?_ | ((repeat (refine ⟨by kernel_rfl, ?_⟩; (conv => whnf))); refine callF s1 ⟨.refl _, .refl _, trivial⟩ (by trivial) rfl ?_)
  conv => whnf
  first | refine callF s2 ⟨.refl _, .refl _, trivial⟩ (by trivial) rfl ?_ | ((repeat (refine ⟨by kernel_rfl, ?_⟩; (conv => whnf))); refine callF s2 ⟨.refl _, .refl _, trivial⟩ (by trivial) rfl ?_)
  conv => whnf
  first | refine callF e4 ⟨.refl _, .refl _, trivial⟩ (by trivial) rfl ?_ | ((repeat (refine ⟨by kernel_rfl, ?_⟩; (conv => whnf))); refine callF e4 ⟨.refl _, .refl _, trivial⟩ (by trivial) rfl ?_)
  conv => whnf
  first | refine callF m1 ⟨.refl _, .refl _, trivial⟩ (by trivial) rfl ?_ | ((repeat (refine ⟨by kernel_rfl, ?_⟩; (conv => whnf))); refine callF m1 ⟨.refl _, .refl _, trivial⟩ (by trivial) rfl ?_)
  conv => whnf
  first | refine callF m2 ⟨.refl _, .refl _, trivial⟩ (by trivial) rfl ?_ | ((repeat (refine ⟨by kernel_rfl, ?_⟩; (conv => whnf))); refine callF m2 ⟨.refl _, .refl _, trivial⟩ (by trivial) rfl ?_)
  conv => whnf
  first | refine callF e5 ⟨.refl _, .refl _, trivial⟩ (by trivial) rfl ?_ | ((repeat (refine ⟨by kernel_rfl, ?_⟩; (conv => whnf))); refine callF e5 ⟨.refl _, .refl _, trivial⟩ (by trivial) rfl ?_)
  conv => whnf
  (repeat (refine ⟨by kernel_rfl, ?_⟩; (conv => whnf)))
  refine ⟨(by (try simp only [true_and, and_true, Nat.sub_zero, Nat.zero_add, Int.toNat_natCast]) <;> omega), ?_⟩
  exact .refl _

theorem IntegerRing_ok {x y w : AV} {a b c : Int} {s t u : Nat} (ha : IsI x a s) (hb : IsI y b t) (hc : IsI w c u) (hs : s ≤ 1099511627776) (ht : t ≤ 1099511627776) (hu : u ≤ 1099511627776) :
    ACall Try.prog 3 [x, y, w] (.f (.bool true)) := by
  have sa := ha.size
  have sb := hb.size
  have sab := isz_add sa sb
  have mab := isz_mul sa sb
  have sc := hc.size
  have sbc := isz_add sb sc
  have sabc := isz_add sab sc
  have mbc := isz_mul sb sc
  have mabc := isz_mul mab sc
  have mac := isz_mul sa sc
  have mabc2 := isz_mul sa sbc
  have m2 := isz_add mab mac
  have r1 := iAdd_ok ha hb (by omega) (by omega)
  have r2 := iAdd_ok (isI_int (a + b) sab) hc (by omega) (by omega)
  have r3 := iAdd_ok hb hc (by omega) (by omega)
  have r4 := iAdd_ok ha (isI_int (b + c) sbc) (by omega) (by omega)
  rw [← Int.add_assoc] at r4
  have e1 := rEqual_same (a + b + c) (by omega)
  have p1 := iMul_ok ha hb (by omega)
  have p2 := iMul_ok (isI_int (a * b) mab) hc (by omega)
  have p3 := iMul_ok hb hc (by omega)
  have p4 := iMul_ok ha (isI_int (b * c) mbc) (by omega)
  rw [← Int.mul_assoc] at p4
  have e2 := rEqual_same (a * b * c) (by omega)
  have r5 := iAdd_ok hb ha (by omega) (by omega)
  rw [Int.add_comm] at r5
  have e3 := rEqual_same (a + b) (by omega)
  have p5 := iMul_ok hb ha (by omega)
  rw [Int.mul_comm] at p5
  have e4 := rEqual_same (a * b) (by omega)
  have p6 := iMul_ok ha (isI_int (b + c) sbc) (by omega)
  have p7 := iMul_ok ha hc (by omega)
  have r6 := iAdd_ok (isI_int (a * b) mab) (isI_int (a * c) mac) (by omega) (by omega)
  rw [← Int.mul_add] at r6
  have e5 := rEqual_same (a * (b + c)) (by omega)
  have n1 := iNeg_ok ha (by omega)
  have r7 := iAdd_ok ha (isI_int (-a) (by rw [isz_neg]; exact sa)) (by omega) (by omega)
  rw [Int.add_right_neg] at r7
  have f0 := rFromInt_ok 0 (by omega)
  have e6 := rEqual_same 0 (by decide)
  have s1 := iSub_ok (isI_int (a + b) sab) hb (by omega) (by omega)
  rw [Int.add_sub_cancel] at s1
  have n2 := rNorm_ok ha (by omega)
  have e7 := rEqual_same a (by omega)
  obtain ⟨na, g, n, _, hg, hn⟩ := ha
  obtain ⟨nb, h, m, _, hh, hm⟩ := hb
  obtain ⟨nc, f, k, _, hf, hk⟩ := hc
  refine acall_rule env [0, 1, 2, 3, 4, 5, 6, 36] Try.func3 rfl rfl rfl rfl ?_
  conv => whnf
  first | refine callF awake2_ok trivial (by trivial) rfl ?_ | ((repeat (refine ⟨by kernel_rfl, ?_⟩; (conv => whnf))); refine callF awake2_ok trivial (by trivial) rfl ?_)
  conv => whnf
  first | refine callF r1 ⟨.refl _, .refl _, trivial⟩ (by trivial) rfl ?_ | ((repeat (refine ⟨by kernel_rfl, ?_⟩; (conv => whnf))); refine callF r1 ⟨.refl _, .refl _, trivial⟩ (by trivial) rfl ?_)
  conv => whnf
  first | refine callF r2 ⟨.refl _, .refl _, trivial⟩ (by trivial) rfl ?_ | ((repeat (refine ⟨by kernel_rfl, ?_⟩; (conv => whnf))); refine callF r2 ⟨.refl _, .refl _, trivial⟩ (by trivial) rfl ?_)
  conv => whnf
  first | refine callF r3 ⟨.refl _, .refl _, trivial⟩ (by trivial) rfl ?_ | ((repeat (refine ⟨by kernel_rfl, ?_⟩; (conv => whnf))); refine callF r3 ⟨.refl _, .refl _, trivial⟩ (by trivial) rfl ?_)
  conv => whnf
  first | refine callF r4 ⟨.refl _, .refl _, trivial⟩ (by trivial) rfl ?_ | ((repeat (refine ⟨by kernel_rfl, ?_⟩; (conv => whnf))); refine callF r4 ⟨.refl _, .refl _, trivial⟩ (by trivial) rfl ?_)
  conv => whnf
  first | refine callF e1 ⟨.refl _, .refl _, trivial⟩ (by trivial) rfl ?_ | ((repeat (refine ⟨by kernel_rfl, ?_⟩; (conv => whnf))); refine callF e1 ⟨.refl _, .refl _, trivial⟩ (by trivial) rfl ?_)
  conv => whnf
  first | refine callF p1 ⟨.refl _, .refl _, trivial⟩ (by trivial) rfl ?_ | ((repeat (refine ⟨by kernel_rfl, ?_⟩; (conv => whnf))); refine callF p1 ⟨.refl _, .refl _, trivial⟩ (by trivial) rfl ?_)
  conv => whnf
  first | refine callF p2 ⟨.refl _, .refl _, trivial⟩ (by trivial) rfl ?_ | ((repeat (refine ⟨by kernel_rfl, ?_⟩; (conv => whnf))); refine callF p2 ⟨.refl _, .refl _, trivial⟩ (by trivial) rfl ?_)
  conv => whnf
  first | refine callF p3 ⟨.refl _, .refl _, trivial⟩ (by trivial) rfl ?_ | ((repeat (refine ⟨by kernel_rfl, ?_⟩; (conv => whnf))); refine callF p3 ⟨.refl _, .refl _, trivial⟩ (by trivial) rfl ?_)
  conv => whnf
  first | refine callF p4 ⟨.refl _, .refl _, trivial⟩ (by trivial) rfl ?_ | ((repeat (refine ⟨by kernel_rfl, ?_⟩; (conv => whnf))); refine callF p4 ⟨.refl _, .refl _, trivial⟩ (by trivial) rfl ?_)
  conv => whnf
  first | refine callF e2 ⟨.refl _, .refl _, trivial⟩ (by trivial) rfl ?_ | ((repeat (refine ⟨by kernel_rfl, ?_⟩; (conv => whnf))); refine callF e2 ⟨.refl _, .refl _, trivial⟩ (by trivial) rfl ?_)
  conv => whnf
  first | refine callF r1 ⟨.refl _, .refl _, trivial⟩ (by trivial) rfl ?_ | ((repeat (refine ⟨by kernel_rfl, ?_⟩; (conv => whnf))); refine callF r1 ⟨.refl _, .refl _, trivial⟩ (by trivial) rfl ?_)
  conv => whnf
  first | refine callF r5 ⟨.refl _, .refl _, trivial⟩ (by trivial) rfl ?_ | ((repeat (refine ⟨by kernel_rfl, ?_⟩; (conv => whnf))); refine callF r5 ⟨.refl _, .refl _, trivial⟩ (by trivial) rfl ?_)
  conv => whnf
  first | refine callF e3 ⟨.refl _, .refl _, trivial⟩ (by trivial) rfl ?_ | ((repeat (refine ⟨by kernel_rfl, ?_⟩; (conv => whnf))); refine callF e3 ⟨.refl _, .refl _, trivial⟩ (by trivial) rfl ?_)
  conv => whnf
  first | refine callF p1 ⟨.refl _, .refl _, trivial⟩ (by trivial) rfl ?_ | ((repeat (refine ⟨by kernel_rfl, ?_⟩; (conv => whnf))); refine callF p1 ⟨.refl _, .refl _, trivial⟩ (by trivial) rfl ?_)
  conv => whnf
  first | refine callF p5 ⟨.refl _, .refl _, trivial⟩ (by trivial) rfl ?_ | ((repeat (refine ⟨by kernel_rfl, ?_⟩; (conv => whnf))); refine callF p5 ⟨.refl _, .refl _, trivial⟩ (by trivial) rfl ?_)
  conv => whnf
  first | refine callF e4 ⟨.refl _, .refl _, trivial⟩ (by trivial) rfl ?_ | ((repeat (refine ⟨by kernel_rfl, ?_⟩; (conv => whnf))); refine callF e4 ⟨.refl _, .refl _, trivial⟩ (by trivial) rfl ?_)
  conv => whnf
  first | refine callF r3 ⟨.refl _, .refl _, trivial⟩ (by trivial) rfl ?_ | ((repeat (refine ⟨by kernel_rfl, ?_⟩; (conv => whnf))); refine callF r3 ⟨.refl _, .refl _, trivial⟩ (by trivial) rfl ?_)
  conv => whnf
  first | refine callF p6 ⟨.refl _, .refl _, trivial⟩ (by trivial) rfl ?_ | ((repeat (refine ⟨by kernel_rfl, ?_⟩; (conv => whnf))); refine callF p6 ⟨.refl _, .refl _, trivial⟩ (by trivial) rfl ?_)
  conv => whnf
  first | refine callF p1 ⟨.refl _, .refl _, trivial⟩ (by trivial) rfl ?_ | ((repeat (refine ⟨by kernel_rfl, ?_⟩; (conv => whnf))); refine callF p1 ⟨.refl _, .refl _, trivial⟩ (by trivial) rfl ?_)
  conv => whnf
  first | refine callF p7 ⟨.refl _, .refl _, trivial⟩ (by trivial) rfl ?_ | ((repeat (refine ⟨by kernel_rfl, ?_⟩; (conv => whnf))); refine callF p7 ⟨.refl _, .refl _, trivial⟩ (by trivial) rfl ?_)
  conv => whnf
  first | refine callF r6 ⟨.refl _, .refl _, trivial⟩ (by trivial) rfl ?_ | ((repeat (refine ⟨by kernel_rfl, ?_⟩; (conv => whnf))); refine callF r6 ⟨.refl _, .refl _, trivial⟩ (by trivial) rfl ?_)
  conv => whnf
  first | refine callF e5 ⟨.refl _, .refl _, trivial⟩ (by trivial) rfl ?_ | ((repeat (refine ⟨by kernel_rfl, ?_⟩; (conv => whnf))); refine callF e5 ⟨.refl _, .refl _, trivial⟩ (by trivial) rfl ?_)
  conv => whnf
  first | refine callF n1 ⟨.refl _, trivial⟩ (by trivial) rfl ?_ | ((repeat (refine ⟨by kernel_rfl, ?_⟩; (conv => whnf))); refine callF n1 ⟨.refl _, trivial⟩ (by trivial) rfl ?_)
  conv => whnf
  first | refine callF r7 ⟨.refl _, .refl _, trivial⟩ (by trivial) rfl ?_ | ((repeat (refine ⟨by kernel_rfl, ?_⟩; (conv => whnf))); refine callF r7 ⟨.refl _, .refl _, trivial⟩ (by trivial) rfl ?_)
  conv => whnf
  first | refine callF f0 ⟨.refl _, trivial⟩ (by trivial) rfl ?_ | ((repeat (refine ⟨by kernel_rfl, ?_⟩; (conv => whnf))); refine callF f0 ⟨.refl _, trivial⟩ (by trivial) rfl ?_)
  conv => whnf
  first | refine callF e6 ⟨.refl _, .refl _, trivial⟩ (by trivial) rfl ?_ | ((repeat (refine ⟨by kernel_rfl, ?_⟩; (conv => whnf))); refine callF e6 ⟨.refl _, .refl _, trivial⟩ (by trivial) rfl ?_)
  conv => whnf
  first | refine callF r1 ⟨.refl _, .refl _, trivial⟩ (by trivial) rfl ?_ | ((repeat (refine ⟨by kernel_rfl, ?_⟩; (conv => whnf))); refine callF r1 ⟨.refl _, .refl _, trivial⟩ (by trivial) rfl ?_)
  conv => whnf
  first | refine callF s1 ⟨.refl _, .refl _, trivial⟩ (by trivial) rfl ?_ | ((repeat (refine ⟨by kernel_rfl, ?_⟩; (conv => whnf))); refine callF s1 ⟨.refl _, .refl _, trivial⟩ (by trivial) rfl ?_)
  conv => whnf
  first | refine callF n2 ⟨.refl _, trivial⟩ (by trivial) rfl ?_ | ((repeat (refine ⟨by kernel_rfl, ?_⟩; (conv => whnf))); refine callF n2 ⟨.refl _, trivial⟩ (by trivial) rfl ?_)
  conv => whnf
  first | refine callF e7 ⟨.refl _, .refl _, trivial⟩ (by trivial) rfl ?_ | ((repeat (refine ⟨by kernel_rfl, ?_⟩; (conv => whnf))); refine callF e7 ⟨.refl _, .refl _, trivial⟩ (by trivial) rfl ?_)
  conv => whnf
  (repeat (refine ⟨by kernel_rfl, ?_⟩; (conv => whnf)))
  refine ⟨(by (try simp only [true_and, and_true, Nat.sub_zero, Nat.zero_add, Int.toNat_natCast]) <;> omega), ?_⟩
  exact .refl _

theorem IntegerDivides_ok {x y : AV} {a b : Int} {s t : Nat} (ha : IsI x a s) (hb : IsI y b t) (hs : s ≤ 1099511627776) (ht : t ≤ 1099511627776) :
    ACall Try.prog 7 [x, y] (.f (.bool true)) := by
  have sa := ha.size
  have sb := hb.size
  have sab := isz_add sa sb
  have mab := isz_mul sa sb
  have d1 := iDivMod_ok ha hb (by omega) (by omega)
  have d2 := rDivMod_ok ha hb (by omega) (by omega)
  unfold idivRes at d1 d2
  by_cases h0 : b = 0
  · rw [if_pos h0] at d1 d2
    have e0 := rEqual_same 0 (by decide)
    obtain ⟨na, g, n, _, hg, hn⟩ := ha
    obtain ⟨nb, h, m, _, hh, hm⟩ := hb
    refine acall_rule env [0, 1, 2, 3, 4, 5, 6, 7, 8, 9, 10, 43] Try.func7 rfl rfl rfl rfl ?_
    conv => whnf
    first | refine callF d1 ⟨.refl _, .refl _, trivial⟩ (by trivial) rfl ?_ | ((repeat (refine ⟨by kernel_rfl, ?_⟩; (conv => whnf))); refine callF d1 ⟨.refl _, .refl _, trivial⟩ (by trivial) rfl ?_)
    conv => whnf
    first | refine callF d2 ⟨.refl _, .refl _, trivial⟩ (by trivial) rfl ?_ | ((repeat (refine ⟨by kernel_rfl, ?_⟩; (conv => whnf))); refine callF d2 ⟨.refl _, .refl _, trivial⟩ (by trivial) rfl ?_)
    conv => whnf
    first | refine callF awake2_ok trivial (by trivial) rfl ?_ | ((repeat (refine ⟨by kernel_rfl, ?_⟩; (conv => whnf))); refine callF awake2_ok trivial (by trivial) rfl ?_)
    conv => whnf
    first | refine callF e0 ⟨.refl _, .refl _, trivial⟩ (by trivial) rfl ?_ | ((repeat (refine ⟨by kernel_rfl, ?_⟩; (conv => whnf))); refine callF e0 ⟨.refl _, .refl _, trivial⟩ (by trivial) rfl ?_)
    conv => whnf
    first | refine callF e0 ⟨.refl _, .refl _, trivial⟩ (by trivial) rfl ?_ | ((repeat (refine ⟨by kernel_rfl, ?_⟩; (conv => whnf))); refine callF e0 ⟨.refl _, .refl _, trivial⟩ (by trivial) rfl ?_)
    conv => whnf
    (repeat (refine ⟨by kernel_rfl, ?_⟩; (conv => whnf)))
    refine ⟨(by (try simp only [true_and, and_true, Nat.sub_zero, Nat.zero_add, Int.toNat_natCast]) <;> omega), ?_⟩
    exact .refl _
  · rw [if_neg h0] at d1 d2
    have sq := Nat.le_trans (isz_ediv a b) sa
    have sr := Nat.le_trans (isz_emod a b h0) sb
    have e1 := rEqual_same (a / b) (by omega)
    have e2 := rEqual_same (a % b) (by omega)
    have p1 := iMul_ok (isI_int (a / b) sq) hb (by omega)
    have sp := isz_mul sq sb
    have r1 := iAdd_ok (isI_int (a / b * b) sp) (isI_int (a % b) sr) (by omega) (by omega)
    have e : a / b * b + a % b = a := by rw [Int.mul_comm]; exact Int.mul_ediv_add_emod a b
    rw [e] at r1
    have n1 := rNorm_ok ha (by omega)
    have e3 := rEqual_same a (by omega)
    have g1 := iSign_ok (isI_int (a % b) sr) (by omega)
    have b1 := iAbs_ok hb (by omega)
    have c1 := iCompare_ok (isI_int (a % b) sr) (isI_int (b.natAbs : Nat) (by rw [isz_abs]; exact sb)) (by omega) (by omega)
    have h1 := Int.emod_nonneg a h0
    have h2 := Int.emod_lt a h0
    have hsg : 0 ≤ sgn (a % b) := by unfold sgn; repeat' split
                                     all_goals omega
    rw [show icmp (a % b) (b.natAbs : Nat) = -1 from if_pos (by omega)] at c1
    generalize sgn (a % b) = sg at *
    obtain ⟨na, g, n, _, hg, hn⟩ := ha
    obtain ⟨nb, h, m, _, hh, hm⟩ := hb
    refine acall_rule env [0, 1, 2, 3, 4, 5, 6, 7, 8, 9, 10, 43] Try.func7 rfl rfl rfl rfl ?_
    conv => whnf
    first | refine callF d1 ⟨.refl _, .refl _, trivial⟩ (by trivial) rfl ?_ | ((repeat (refine ⟨by kernel_rfl, ?_⟩; (conv => whnf))); refine callF d1 ⟨.refl _, .refl _, trivial⟩ (by trivial) rfl ?_)
    conv => whnf
    first | refine callF d2 ⟨.refl _, .refl _, trivial⟩ (by trivial) rfl ?_ | ((repeat (refine ⟨by kernel_rfl, ?_⟩; (conv => whnf))); refine callF d2 ⟨.refl _, .refl _, trivial⟩ (by trivial) rfl ?_)
    conv => whnf
    first | refine callF awake2_ok trivial (by trivial) rfl ?_ | ((repeat (refine ⟨by kernel_rfl, ?_⟩; (conv => whnf))); refine callF awake2_ok trivial (by trivial) rfl ?_)
    conv => whnf
    first | refine callF e1 ⟨.refl _, .refl _, trivial⟩ (by trivial) rfl ?_ | ((repeat (refine ⟨by kernel_rfl, ?_⟩; (conv => whnf))); refine callF e1 ⟨.refl _, .refl _, trivial⟩ (by trivial) rfl ?_)
    conv => whnf
    first | refine callF e2 ⟨.refl _, .refl _, trivial⟩ (by trivial) rfl ?_ | ((repeat (refine ⟨by kernel_rfl, ?_⟩; (conv => whnf))); refine callF e2 ⟨.refl _, .refl _, trivial⟩ (by trivial) rfl ?_)
    conv => whnf
    first | refine callF p1 ⟨.refl _, .refl _, trivial⟩ (by trivial) rfl ?_ | ((repeat (refine ⟨by kernel_rfl, ?_⟩; (conv => whnf))); refine callF p1 ⟨.refl _, .refl _, trivial⟩ (by trivial) rfl ?_)
    conv => whnf
    first | refine callF r1 ⟨.refl _, .refl _, trivial⟩ (by trivial) rfl ?_ | ((repeat (refine ⟨by kernel_rfl, ?_⟩; (conv => whnf))); refine callF r1 ⟨.refl _, .refl _, trivial⟩ (by trivial) rfl ?_)
    conv => whnf
    first | refine callF n1 ⟨.refl _, trivial⟩ (by trivial) rfl ?_ | ((repeat (refine ⟨by kernel_rfl, ?_⟩; (conv => whnf))); refine callF n1 ⟨.refl _, trivial⟩ (by trivial) rfl ?_)
    conv => whnf
    first | refine callF e3 ⟨.refl _, .refl _, trivial⟩ (by trivial) rfl ?_ | ((repeat (refine ⟨by kernel_rfl, ?_⟩; (conv => whnf))); refine callF e3 ⟨.refl _, .refl _, trivial⟩ (by trivial) rfl ?_)
    conv => whnf
    first | refine callF g1 ⟨.refl _, trivial⟩ (by trivial) rfl ?_ | ((repeat (refine ⟨by kernel_rfl, ?_⟩; (conv => whnf))); refine callF g1 ⟨.refl _, trivial⟩ (by trivial) rfl ?_)
    conv => whnf
    refine splT (by simp only [decide_eq_true_eq, decide_eq_false_iff_not, Bool.not_eq_true', Bool.not_eq_false', gt_iff_lt, ge_iff_le] <;> omega) ?_
    conv => whnf
    first | refine callF b1 ⟨.refl _, trivial⟩ (by trivial) rfl ?_ | ((repeat (refine ⟨by kernel_rfl, ?_⟩; (conv => whnf))); refine callF b1 ⟨.refl _, trivial⟩ (by trivial) rfl ?_)
    conv => whnf
    first | refine callF c1 ⟨.refl _, .refl _, trivial⟩ (by trivial) rfl ?_ | ((repeat (refine ⟨by kernel_rfl, ?_⟩; (conv => whnf))); refine callF c1 ⟨.refl _, .refl _, trivial⟩ (by trivial) rfl ?_)
    conv => whnf
    (repeat (refine ⟨by kernel_rfl, ?_⟩; (conv => whnf)))
    refine ⟨(by (try simp only [true_and, and_true, Nat.sub_zero, Nat.zero_add, Int.toNat_natCast]) <;> omega), ?_⟩
    exact .refl _

theorem IntegerOrder_ok {x y w : AV} {a b c : Int} {s t u : Nat} (ha : IsI x a s) (hb : IsI y b t) (hc : IsI w c u) (hs : s ≤ 1099511627776) (ht : t ≤ 1099511627776) (hu : u ≤ 1099511627776) :
    ACall Try.prog 5 [x, y, w] (.f (.bool true)) := by
  have sa := ha.size
  have sb := hb.size
  have sab := isz_add sa sb
  have mab := isz_mul sa sb
  have sc := hc.size
  have sac := isz_add sa sc
  have sbc := isz_add sb sc
  have dab := isz_sub sa sb
  have c1 := iCompare_ok ha hb (by omega) (by omega)
  have s1 := iSub_ok ha hb (by omega) (by omega)
  have g1 := iSign_ok (isI_int (a - b) dab) (by omega)
  rw [icmp_sgn] at g1
  have c2 := iCompare_ok hb ha (by omega) (by omega)
  have r1 := iAdd_ok ha hc (by omega) (by omega)
  have r2 := iAdd_ok hb hc (by omega) (by omega)
  have c3 := iCompare_ok (isI_int (a + c) sac) (isI_int (b + c) sbc) (by omega) (by omega)
  have c4 := iCompare_ok hb hc (by omega) (by omega)
  have c5 := iCompare_ok ha hc (by omega) (by omega)
  obtain ⟨na, g, n, _, hg, hn⟩ := ha
  obtain ⟨nb, h, m, _, hh, hm⟩ := hb
  obtain ⟨nc, f, k, _, hf, hk⟩ := hc
  generalize ival na (nval g n) = a at *
  generalize ival nb (nval h m) = b at *
  generalize ival nc (nval f k) = c at *
  have e3 : icmp (a + c) (b + c) = icmp a b := by unfold icmp; repeat' split
                                                  all_goals omega
  rw [e3] at c3
  have e2 : icmp b a = -icmp a b := by unfold icmp; repeat' split
                                       all_goals omega
  rw [e2] at c2
  have hx : -1 ≤ icmp a b ∧ icmp a b ≤ 1 := by unfold icmp; repeat' split
                                               all_goals omega
  have h4 : icmp b c ≤ 0 → icmp a b ≤ 0 → icmp a c ≤ 0 := by unfold icmp; repeat' split
                                                             all_goals omega
  generalize icmp a b = p at *
  generalize icmp b c = q at *
  generalize icmp a c = r at *
  refine acall_rule env [0, 1, 2, 3, 4, 5, 6, 7, 39] Try.func5 rfl rfl rfl rfl ?_
  conv => whnf
  first | refine callF c1 ⟨.refl _, .refl _, trivial⟩ (by trivial) rfl ?_ | ((repeat (refine ⟨by kernel_rfl, ?_⟩; (conv => whnf))); refine callF c1 ⟨.refl _, .refl _, trivial⟩ (by trivial) rfl ?_)
  conv => whnf
  first | refine callF awake2_ok trivial (by trivial) rfl ?_ | ((repeat (refine ⟨by kernel_rfl, ?_⟩; (conv => whnf))); refine callF awake2_ok trivial (by trivial) rfl ?_)
  conv => whnf
  first | refine callF s1 ⟨.refl _, .refl _, trivial⟩ (by trivial) rfl ?_ | ((repeat (refine ⟨by kernel_rfl, ?_⟩; (conv => whnf))); refine callF s1 ⟨.refl _, .refl _, trivial⟩ (by trivial) rfl ?_)
  conv => whnf
  first | refine callF g1 ⟨.refl _, trivial⟩ (by trivial) rfl ?_ | ((repeat (refine ⟨by kernel_rfl, ?_⟩; (conv => whnf))); refine callF g1 ⟨.refl _, trivial⟩ (by trivial) rfl ?_)
  conv => whnf
  refine splF (by simp only [decide_eq_true_eq, decide_eq_false_iff_not, Bool.not_eq_true', Bool.not_eq_false', gt_iff_lt, ge_iff_le] <;> omega) ?_
  conv => whnf
  first | refine callF c2 ⟨.refl _, .refl _, trivial⟩ (by trivial) rfl ?_ | ((repeat (refine ⟨by kernel_rfl, ?_⟩; (conv => whnf))); refine callF c2 ⟨.refl _, .refl _, trivial⟩ (by trivial) rfl ?_)
  conv => whnf
  refine fit64 (by omega) ?_
  conv => whnf
  refine splF (by simp only [decide_eq_true_eq, decide_eq_false_iff_not, Bool.not_eq_true', Bool.not_eq_false', gt_iff_lt, ge_iff_le] <;> omega) ?_
  conv => whnf
  first | refine callF r1 ⟨.refl _, .refl _, trivial⟩ (by trivial) rfl ?_ | ((repeat (refine ⟨by kernel_rfl, ?_⟩; (conv => whnf))); refine callF r1 ⟨.refl _, .refl _, trivial⟩ (by trivial) rfl ?_)
  conv => whnf
  first | refine callF r2 ⟨.refl _, .refl _, trivial⟩ (by trivial) rfl ?_ | ((repeat (refine ⟨by kernel_rfl, ?_⟩; (conv => whnf))); refine callF r2 ⟨.refl _, .refl _, trivial⟩ (by trivial) rfl ?_)
  conv => whnf
  first | refine callF c3 ⟨.refl _, .refl _, trivial⟩ (by trivial) rfl ?_ | ((repeat (refine ⟨by kernel_rfl, ?_⟩; (conv => whnf))); refine callF c3 ⟨.refl _, .refl _, trivial⟩ (by trivial) rfl ?_)
  conv => whnf
  refine ⟨by kernel_rfl, ?_⟩
  conv => whnf
  refine splF (by simp only [decide_eq_true_eq, decide_eq_false_iff_not, Bool.not_eq_true', Bool.not_eq_false', gt_iff_lt, ge_iff_le] <;> omega) ?_
  conv => whnf
  refine spl (fun h1 => ?_) (fun h1 => ?_) <;> simp only [decide_eq_true_eq, decide_eq_false_iff_not, Bool.not_eq_true', Bool.not_eq_false', gt_iff_lt, ge_iff_le] at h1
  · conv => whnf
    (repeat (refine ⟨by kernel_rfl, ?_⟩; (conv => whnf)))
    refine ⟨(by (try simp only [true_and, and_true, Nat.sub_zero, Nat.zero_add, Int.toNat_natCast]) <;> omega), ?_⟩
    exact .refl _
  · conv => whnf
    first | refine callF c4 ⟨.refl _, .refl _, trivial⟩ (by trivial) rfl ?_ | ((repeat (refine ⟨by kernel_rfl, ?_⟩; (conv => whnf))); refine callF c4 ⟨.refl _, .refl _, trivial⟩ (by trivial) rfl ?_)
    conv => whnf
    refine spl (fun h2 => ?_) (fun h2 => ?_) <;> simp only [decide_eq_true_eq, decide_eq_false_iff_not, Bool.not_eq_true', Bool.not_eq_false', gt_iff_lt, ge_iff_le] at h2
    · conv => whnf
      (repeat (refine ⟨by kernel_rfl, ?_⟩; (conv => whnf)))
      refine ⟨(by (try simp only [true_and, and_true, Nat.sub_zero, Nat.zero_add, Int.toNat_natCast]) <;> omega), ?_⟩
      exact .refl _
    · conv => whnf
      first | refine callF c5 ⟨.refl _, .refl _, trivial⟩ (by trivial) rfl ?_ | ((repeat (refine ⟨by kernel_rfl, ?_⟩; (conv => whnf))); refine callF c5 ⟨.refl _, .refl _, trivial⟩ (by trivial) rfl ?_)
      conv => whnf
      refine ⟨(by (try simp only [true_and, and_true, Nat.sub_zero, Nat.zero_add, Int.toNat_natCast]) <;> omega), ?_⟩
      exact .bool_of (decide_eq_true (h4 (by omega) (by omega)))


/-- integers of the language -/

theorem rValue_ok {x : AV} {z : Int} {s : Nat} (h : IsI x z s) (hs : s ≤ 4398046511000) : ACall Try.prog 29 [x] (valRes z) := by
  have hn := rNorm_ok h hs
  have hz := h.size
  have u := refUint64_nn z.natAbs (by unfold isz at hz; omega)
  obtain ⟨neg, g, n, _, hg, hn'⟩ := h
  generalize ival neg (nval g n) = z at *
  unfold int at hn
  unfold valRes
  obtain ⟨dz, hdz⟩ : ∃ dz, decide (z < 0) = dz := ⟨_, rfl⟩
  obtain ⟨v, hv⟩ : ∃ v, z.natAbs = v := ⟨_, rfl⟩
  rw [hdz, hv] at hn
  rw [hv] at u
  by_cases h64 : v < 18446744073709551616
  · rw [if_pos h64] at u
    rcases Int.lt_or_le z 0 with h | h
    · rw [decide_eq_true h] at hdz
      by_cases hl : -9223372036854775808 ≤ z
      · rw [if_pos (by omega)]
        obtain ⟨k, hk⟩ : ∃ k : Nat, v = k + 1 := ⟨v - 1, by omega⟩
        refine acall_rule env [0, 1, 2, 3, 4, 5, 14, 17, 29] Try.func29 rfl rfl rfl rfl ?_
        conv => whnf
        first | refine callF hn ⟨.refl _, trivial⟩ (by trivial) rfl ?_ | ((repeat (refine ⟨by kernel_rfl, ?_⟩; (conv => whnf))); refine callF hn ⟨.refl _, trivial⟩ (by trivial) rfl ?_)
        conv => whnf
        refine callF u ⟨.refl _, trivial⟩ (by trivial) rfl ?_
        obtain ⟨L, hL⟩ : ∃ L, (9223372036854775808 : Int) = L := ⟨_, rfl⟩
        rw [hL]
        conv => whnf
        refine splT hdz.symm ?_
        conv => whnf
        refine splT (by simp only [decide_eq_true_eq, decide_eq_false_iff_not, Bool.not_eq_true', Bool.not_eq_false', gt_iff_lt, ge_iff_le] <;> omega) ?_
        conv => whnf
        refine sumu64 k (by omega) (by omega) ?_
        conv => whnf
        refine sumi64 k rfl (by omega) ?_
        conv => whnf
        refine fit64 (by omega) ?_
        conv => whnf
        refine fit64 (by omega) ?_
        conv => whnf
        (repeat (refine ⟨by kernel_rfl, ?_⟩; (conv => whnf)))
        refine ⟨(by (try simp only [true_and, and_true, Nat.sub_zero, Nat.zero_add, Int.toNat_natCast]) <;> omega), ?_⟩
        exact .tup ⟨.int_of (by omega), .refl _, trivial⟩
      · rw [if_neg (by omega)]
        refine acall_rule env [0, 1, 2, 3, 4, 5, 14, 17, 29] Try.func29 rfl rfl rfl rfl ?_
        conv => whnf
        first | refine callF hn ⟨.refl _, trivial⟩ (by trivial) rfl ?_ | ((repeat (refine ⟨by kernel_rfl, ?_⟩; (conv => whnf))); refine callF hn ⟨.refl _, trivial⟩ (by trivial) rfl ?_)
        conv => whnf
        refine callF u ⟨.refl _, trivial⟩ (by trivial) rfl ?_
        obtain ⟨L, hL⟩ : ∃ L, (9223372036854775808 : Int) = L := ⟨_, rfl⟩
        rw [hL]
        conv => whnf
        refine splT hdz.symm ?_
        conv => whnf
        refine splF (by simp only [decide_eq_true_eq, decide_eq_false_iff_not, Bool.not_eq_true', Bool.not_eq_false', gt_iff_lt, ge_iff_le] <;> omega) ?_
        conv => whnf
        refine splF (by rw [← hdz]; rfl) ?_
        conv => whnf
        (repeat (refine ⟨by kernel_rfl, ?_⟩; (conv => whnf)))
        refine ⟨(by (try simp only [true_and, and_true, Nat.sub_zero, Nat.zero_add, Int.toNat_natCast]) <;> omega), ?_⟩
        exact .refl _
    · rw [decide_eq_false (by omega)] at hdz
      by_cases hl : z ≤ 9223372036854775807
      · rw [if_pos (by omega)]
        refine acall_rule env [0, 1, 2, 3, 4, 5, 14, 17, 29] Try.func29 rfl rfl rfl rfl ?_
        conv => whnf
        first | refine callF hn ⟨.refl _, trivial⟩ (by trivial) rfl ?_ | ((repeat (refine ⟨by kernel_rfl, ?_⟩; (conv => whnf))); refine callF hn ⟨.refl _, trivial⟩ (by trivial) rfl ?_)
        conv => whnf
        refine callF u ⟨.refl _, trivial⟩ (by trivial) rfl ?_
        obtain ⟨L, hL⟩ : ∃ L, (9223372036854775808 : Int) = L := ⟨_, rfl⟩
        rw [hL]
        conv => whnf
        refine splF hdz.symm ?_
        conv => whnf
        refine splT (by rw [← hdz]; rfl) ?_
        conv => whnf
        refine splT (by simp only [decide_eq_true_eq, decide_eq_false_iff_not, Bool.not_eq_true', Bool.not_eq_false', gt_iff_lt, ge_iff_le] <;> omega) ?_
        conv => whnf
        refine sumi64 v rfl (by omega) ?_
        conv => whnf
        (repeat (refine ⟨by kernel_rfl, ?_⟩; (conv => whnf)))
        refine ⟨(by (try simp only [true_and, and_true, Nat.sub_zero, Nat.zero_add, Int.toNat_natCast]) <;> omega), ?_⟩
        exact .tup ⟨.int_of (by omega), .refl _, trivial⟩
      · rw [if_neg (by omega)]
        refine acall_rule env [0, 1, 2, 3, 4, 5, 14, 17, 29] Try.func29 rfl rfl rfl rfl ?_
        conv => whnf
        first | refine callF hn ⟨.refl _, trivial⟩ (by trivial) rfl ?_ | ((repeat (refine ⟨by kernel_rfl, ?_⟩; (conv => whnf))); refine callF hn ⟨.refl _, trivial⟩ (by trivial) rfl ?_)
        conv => whnf
        refine callF u ⟨.refl _, trivial⟩ (by trivial) rfl ?_
        obtain ⟨L, hL⟩ : ∃ L, (9223372036854775808 : Int) = L := ⟨_, rfl⟩
        rw [hL]
        conv => whnf
        refine splF hdz.symm ?_
        conv => whnf
        refine splT (by rw [← hdz]; rfl) ?_
        conv => whnf
        refine splF (by simp only [decide_eq_true_eq, decide_eq_false_iff_not, Bool.not_eq_true', Bool.not_eq_false', gt_iff_lt, ge_iff_le] <;> omega) ?_
        conv => whnf
        (repeat (refine ⟨by kernel_rfl, ?_⟩; (conv => whnf)))
        refine ⟨(by (try simp only [true_and, and_true, Nat.sub_zero, Nat.zero_add, Int.toNat_natCast]) <;> omega), ?_⟩
        exact .refl _
  · rw [if_neg h64] at u
    rw [if_neg (by omega)]
    refine acall_rule env [0, 1, 2, 3, 4, 5, 14, 17, 29] Try.func29 rfl rfl rfl rfl ?_
    conv => whnf
    first | refine callF hn ⟨.refl _, trivial⟩ (by trivial) rfl ?_ | ((repeat (refine ⟨by kernel_rfl, ?_⟩; (conv => whnf))); refine callF hn ⟨.refl _, trivial⟩ (by trivial) rfl ?_)
    conv => whnf
    first | refine callF u ⟨.refl _, trivial⟩ (by trivial) rfl ?_ | ((repeat (refine ⟨by kernel_rfl, ?_⟩; (conv => whnf))); refine callF u ⟨.refl _, trivial⟩ (by trivial) rfl ?_)
    conv => whnf
    (repeat (refine ⟨by kernel_rfl, ?_⟩; (conv => whnf)))
    refine ⟨(by (try simp only [true_and, and_true, Nat.sub_zero, Nat.zero_add, Int.toNat_natCast]) <;> omega), ?_⟩
    exact .refl _


theorem IntegerValues_ok {x y : AV} {a b : Int} {s t : Nat} (v : Int) (ha : IsI x a s) (hb : IsI y b t) (hs : s ≤ 1099511627776) (ht : t ≤ 1099511627776) (hv : -9223372036854775808 ≤ v ∧ v ≤ 9223372036854775807) :
    ACall Try.prog 6 [x, y, .f (.int .i64 v)] (.f (.bool true)) := by
  have sa := ha.size
  have sb := hb.size
  have sab := isz_add sa sb
  have mab := isz_mul sa sb
  have v1 := iValue_ok ha (by omega)
  have v2 := rValue_ok ha (by omega)
  have f1 := iFromInt_ok v hv
  have sv : isz v ≤ 2 := isz_small (by omega)
  have v3 := iValue_ok (isI_int v sv) (by omega)
  unfold valRes at v1 v2 v3
  rw [if_pos hv] at v3
  have n1 := iNorm_ok ha (by omega)
  have n2 := rNorm_ok ha (by omega)
  have e1 := rEqual_same a (by omega)
  have f2 := rFromInt_ok v hv
  have e2 := rEqual_same v (by omega)
  have g1 := iSign_ok ha (by omega)
  have g2 := rSign_ok ha (by omega)
  have c1 := iCompare_ok ha hb (by omega) (by omega)
  have c2 := rCompare_ok ha hb (by omega) (by omega)
  obtain ⟨na, g, n, _, hg, hn⟩ := ha
  obtain ⟨nb, h, m, _, hh, hm⟩ := hb
  generalize ival na (nval g n) = a at *
  generalize ival nb (nval h m) = b at *
  by_cases hr : -9223372036854775808 ≤ a ∧ a ≤ 9223372036854775807
  · rw [if_pos hr] at v1 v2
    refine acall_rule env [0, 1, 2, 3, 4, 6, 7, 8, 9, 10, 11, 12] Try.func6 rfl rfl rfl rfl ?_
    conv => whnf
    first | refine callF v1 ⟨.refl _, trivial⟩ (by trivial) rfl ?_ | ((repeat (refine ⟨by kernel_rfl, ?_⟩; (conv => whnf))); refine callF v1 ⟨.refl _, trivial⟩ (by trivial) rfl ?_)
    conv => whnf
    first | refine callF v2 ⟨.refl _, trivial⟩ (by trivial) rfl ?_ | ((repeat (refine ⟨by kernel_rfl, ?_⟩; (conv => whnf))); refine callF v2 ⟨.refl _, trivial⟩ (by trivial) rfl ?_)
    conv => whnf
    first | refine callF f1 ⟨.refl _, trivial⟩ (by trivial) rfl ?_ | ((repeat (refine ⟨by kernel_rfl, ?_⟩; (conv => whnf))); refine callF f1 ⟨.refl _, trivial⟩ (by trivial) rfl ?_)
    conv => whnf
    first | refine callF v3 ⟨.refl _, trivial⟩ (by trivial) rfl ?_ | ((repeat (refine ⟨by kernel_rfl, ?_⟩; (conv => whnf))); refine callF v3 ⟨.refl _, trivial⟩ (by trivial) rfl ?_)
    conv => whnf
    first | refine callF awake2_ok trivial (by trivial) rfl ?_ | ((repeat (refine ⟨by kernel_rfl, ?_⟩; (conv => whnf))); refine callF awake2_ok trivial (by trivial) rfl ?_)
    conv => whnf
    first | refine callF n1 ⟨.refl _, trivial⟩ (by trivial) rfl ?_ | ((repeat (refine ⟨by kernel_rfl, ?_⟩; (conv => whnf))); refine callF n1 ⟨.refl _, trivial⟩ (by trivial) rfl ?_)
    conv => whnf
    first | refine callF n2 ⟨.refl _, trivial⟩ (by trivial) rfl ?_ | ((repeat (refine ⟨by kernel_rfl, ?_⟩; (conv => whnf))); refine callF n2 ⟨.refl _, trivial⟩ (by trivial) rfl ?_)
    conv => whnf
    first | refine callF e1 ⟨.refl _, .refl _, trivial⟩ (by trivial) rfl ?_ | ((repeat (refine ⟨by kernel_rfl, ?_⟩; (conv => whnf))); refine callF e1 ⟨.refl _, .refl _, trivial⟩ (by trivial) rfl ?_)
    conv => whnf
    first | refine callF f1 ⟨.refl _, trivial⟩ (by trivial) rfl ?_ | ((repeat (refine ⟨by kernel_rfl, ?_⟩; (conv => whnf))); refine callF f1 ⟨.refl _, trivial⟩ (by trivial) rfl ?_)
    conv => whnf
    first | refine callF f2 ⟨.refl _, trivial⟩ (by trivial) rfl ?_ | ((repeat (refine ⟨by kernel_rfl, ?_⟩; (conv => whnf))); refine callF f2 ⟨.refl _, trivial⟩ (by trivial) rfl ?_)
    conv => whnf
    first | refine callF e2 ⟨.refl _, .refl _, trivial⟩ (by trivial) rfl ?_ | ((repeat (refine ⟨by kernel_rfl, ?_⟩; (conv => whnf))); refine callF e2 ⟨.refl _, .refl _, trivial⟩ (by trivial) rfl ?_)
    conv => whnf
    refine splT (by simp only [decide_eq_true_eq, decide_eq_false_iff_not, Bool.not_eq_true', Bool.not_eq_false', gt_iff_lt, ge_iff_le] <;> omega) ?_
    conv => whnf
    refine splT (by simp only [decide_eq_true_eq, decide_eq_false_iff_not, Bool.not_eq_true', Bool.not_eq_false', gt_iff_lt, ge_iff_le] <;> omega) ?_
    conv => whnf
    first | refine callF g1 ⟨.refl _, trivial⟩ (by trivial) rfl ?_ | ((repeat (refine ⟨by kernel_rfl, ?_⟩; (conv => whnf))); refine callF g1 ⟨.refl _, trivial⟩ (by trivial) rfl ?_)
    conv => whnf
    first | refine callF g2 ⟨.refl _, trivial⟩ (by trivial) rfl ?_ | ((repeat (refine ⟨by kernel_rfl, ?_⟩; (conv => whnf))); refine callF g2 ⟨.refl _, trivial⟩ (by trivial) rfl ?_)
    conv => whnf
    refine splT (by simp only [decide_eq_true_eq, decide_eq_false_iff_not, Bool.not_eq_true', Bool.not_eq_false', gt_iff_lt, ge_iff_le] <;> omega) ?_
    conv => whnf
    first | refine callF c1 ⟨.refl _, .refl _, trivial⟩ (by trivial) rfl ?_ | ((repeat (refine ⟨by kernel_rfl, ?_⟩; (conv => whnf))); refine callF c1 ⟨.refl _, .refl _, trivial⟩ (by trivial) rfl ?_)
    conv => whnf
    first | refine callF c2 ⟨.refl _, .refl _, trivial⟩ (by trivial) rfl ?_ | ((repeat (refine ⟨by kernel_rfl, ?_⟩; (conv => whnf))); refine callF c2 ⟨.refl _, .refl _, trivial⟩ (by trivial) rfl ?_)
    conv => whnf
    (repeat (refine ⟨by kernel_rfl, ?_⟩; (conv => whnf)))
    refine ⟨(by (try simp only [true_and, and_true, Nat.sub_zero, Nat.zero_add, Int.toNat_natCast]) <;> omega), ?_⟩
    exact .bool_of (decide_eq_true rfl)
  · rw [if_neg hr] at v1 v2
    refine acall_rule env [0, 1, 2, 3, 4, 6, 7, 8, 9, 10, 11, 12] Try.func6 rfl rfl rfl rfl ?_
    conv => whnf
    first | refine callF v1 ⟨.refl _, trivial⟩ (by trivial) rfl ?_ | ((repeat (refine ⟨by kernel_rfl, ?_⟩; (conv => whnf))); refine callF v1 ⟨.refl _, trivial⟩ (by trivial) rfl ?_)
    conv => whnf
    first | refine callF v2 ⟨.refl _, trivial⟩ (by trivial) rfl ?_ | ((repeat (refine ⟨by kernel_rfl, ?_⟩; (conv => whnf))); refine callF v2 ⟨.refl _, trivial⟩ (by trivial) rfl ?_)
    conv => whnf
    first | refine callF f1 ⟨.refl _, trivial⟩ (by trivial) rfl ?_ | ((repeat (refine ⟨by kernel_rfl, ?_⟩; (conv => whnf))); refine callF f1 ⟨.refl _, trivial⟩ (by trivial) rfl ?_)
    conv => whnf
    first | refine callF v3 ⟨.refl _, trivial⟩ (by trivial) rfl ?_ | ((repeat (refine ⟨by kernel_rfl, ?_⟩; (conv => whnf))); refine callF v3 ⟨.refl _, trivial⟩ (by trivial) rfl ?_)
    conv => whnf
    first | refine callF awake2_ok trivial (by trivial) rfl ?_ | ((repeat (refine ⟨by kernel_rfl, ?_⟩; (conv => whnf))); refine callF awake2_ok trivial (by trivial) rfl ?_)
    conv => whnf
    first | refine callF n1 ⟨.refl _, trivial⟩ (by trivial) rfl ?_ | ((repeat (refine ⟨by kernel_rfl, ?_⟩; (conv => whnf))); refine callF n1 ⟨.refl _, trivial⟩ (by trivial) rfl ?_)
    conv => whnf
    first | refine callF n2 ⟨.refl _, trivial⟩ (by trivial) rfl ?_ | ((repeat (refine ⟨by kernel_rfl, ?_⟩; (conv => whnf))); refine callF n2 ⟨.refl _, trivial⟩ (by trivial) rfl ?_)
    conv => whnf
    first | refine callF e1 ⟨.refl _, .refl _, trivial⟩ (by trivial) rfl ?_ | ((repeat (refine ⟨by kernel_rfl, ?_⟩; (conv => whnf))); refine callF e1 ⟨.refl _, .refl _, trivial⟩ (by trivial) rfl ?_)
    conv => whnf
    first | refine callF f1 ⟨.refl _, trivial⟩ (by trivial) rfl ?_ | ((repeat (refine ⟨by kernel_rfl, ?_⟩; (conv => whnf))); refine callF f1 ⟨.refl _, trivial⟩ (by trivial) rfl ?_)
    conv => whnf
    first | refine callF f2 ⟨.refl _, trivial⟩ (by trivial) rfl ?_ | ((repeat (refine ⟨by kernel_rfl, ?_⟩; (conv => whnf))); refine callF f2 ⟨.refl _, trivial⟩ (by trivial) rfl ?_)
    conv => whnf
    first | refine callF e2 ⟨.refl _, .refl _, trivial⟩ (by trivial) rfl ?_ | ((repeat (refine ⟨by kernel_rfl, ?_⟩; (conv => whnf))); refine callF e2 ⟨.refl _, .refl _, trivial⟩ (by trivial) rfl ?_)
    conv => whnf
    skip
    refine splT (by simp only [decide_eq_true_eq, decide_eq_false_iff_not, Bool.not_eq_true', Bool.not_eq_false', gt_iff_lt, ge_iff_le] <;> omega) ?_
    conv => whnf
    first | refine callF g1 ⟨.refl _, trivial⟩ (by trivial) rfl ?_ | ((repeat (refine ⟨by kernel_rfl, ?_⟩; (conv => whnf))); refine callF g1 ⟨.refl _, trivial⟩ (by trivial) rfl ?_)
    conv => whnf
    first | refine callF g2 ⟨.refl _, trivial⟩ (by trivial) rfl ?_ | ((repeat (refine ⟨by kernel_rfl, ?_⟩; (conv => whnf))); refine callF g2 ⟨.refl _, trivial⟩ (by trivial) rfl ?_)
    conv => whnf
    refine splT (by simp only [decide_eq_true_eq, decide_eq_false_iff_not, Bool.not_eq_true', Bool.not_eq_false', gt_iff_lt, ge_iff_le] <;> omega) ?_
    conv => whnf
    first | refine callF c1 ⟨.refl _, .refl _, trivial⟩ (by trivial) rfl ?_ | ((repeat (refine ⟨by kernel_rfl, ?_⟩; (conv => whnf))); refine callF c1 ⟨.refl _, .refl _, trivial⟩ (by trivial) rfl ?_)
    conv => whnf
    first | refine callF c2 ⟨.refl _, .refl _, trivial⟩ (by trivial) rfl ?_ | ((repeat (refine ⟨by kernel_rfl, ?_⟩; (conv => whnf))); refine callF c2 ⟨.refl _, .refl _, trivial⟩ (by trivial) rfl ?_)
    conv => whnf
    (repeat (refine ⟨by kernel_rfl, ?_⟩; (conv => whnf)))
    refine ⟨(by (try simp only [true_and, and_true, Nat.sub_zero, Nat.zero_add, Int.toNat_natCast]) <;> omega), ?_⟩
    exact .bool_of (decide_eq_true rfl)

theorem IntegerNative_ok (a b : Int) (ha : -2147483648 ≤ a ∧ a ≤ 2147483647) (hb : -2147483648 ≤ b ∧ b ≤ 2147483647) :
    ACall Try.prog 8 [.f (.int .i32 a), .f (.int .i32 b)] (.f (.bool true)) := by
  have f1 := iFromInt_ok a (by omega)
  have f2 := iFromInt_ok b (by omega)
  have sa : isz a ≤ 2 := isz_small (by omega)
  have sb : isz b ≤ 2 := isz_small (by omega)
  have hab : -4611686018427387904 ≤ a * b ∧ a * b ≤ 4611686018427387904 := by
    have h1 : (a * b).natAbs ≤ 2147483648 * 2147483648 := by rw [Int.natAbs_mul]; exact Nat.mul_le_mul (by omega) (by omega)
    omega
  have r1 := iAdd_ok (isI_int a sa) (isI_int b sb) (by omega) (by omega)
  have p1 := iMul_ok (isI_int a sa) (isI_int b sb) (by omega)
  have s1 := iSub_ok (isI_int a sa) (isI_int b sb) (by omega) (by omega)
  have v1 := iValue_ok (isI_int (a + b) (isz_add sa sb)) (by omega)
  have v2 := iValue_ok (isI_int (a * b) (isz_mul sa sb)) (by omega)
  have v3 := iValue_ok (isI_int (a - b) (isz_sub sa sb)) (by omega)
  unfold valRes at v1 v2 v3
  rw [if_pos (by omega)] at v1 v2 v3
  refine acall_rule env [0, 1, 4, 5, 6, 7, 8, 9, 10, 11, 12] Try.func8 rfl rfl rfl rfl ?_
  conv => whnf
  refine fit64 (by omega) ?_
  conv => whnf
  first | refine callF f1 ⟨.refl _, trivial⟩ (by trivial) rfl ?_ | ((repeat (refine ⟨by kernel_rfl, ?_⟩; (conv => whnf))); refine callF f1 ⟨.refl _, trivial⟩ (by trivial) rfl ?_)
  conv => whnf
  refine fit64 (by omega) ?_
  conv => whnf
  first | refine callF f2 ⟨.refl _, trivial⟩ (by trivial) rfl ?_ | ((repeat (refine ⟨by kernel_rfl, ?_⟩; (conv => whnf))); refine callF f2 ⟨.refl _, trivial⟩ (by trivial) rfl ?_)
  conv => whnf
  first | refine callF r1 ⟨.refl _, .refl _, trivial⟩ (by trivial) rfl ?_ | ((repeat (refine ⟨by kernel_rfl, ?_⟩; (conv => whnf))); refine callF r1 ⟨.refl _, .refl _, trivial⟩ (by trivial) rfl ?_)
  conv => whnf
  first | refine callF v1 ⟨.refl _, trivial⟩ (by trivial) rfl ?_ | ((repeat (refine ⟨by kernel_rfl, ?_⟩; (conv => whnf))); refine callF v1 ⟨.refl _, trivial⟩ (by trivial) rfl ?_)
  conv => whnf
  first | refine callF p1 ⟨.refl _, .refl _, trivial⟩ (by trivial) rfl ?_ | ((repeat (refine ⟨by kernel_rfl, ?_⟩; (conv => whnf))); refine callF p1 ⟨.refl _, .refl _, trivial⟩ (by trivial) rfl ?_)
  conv => whnf
  first | refine callF v2 ⟨.refl _, trivial⟩ (by trivial) rfl ?_ | ((repeat (refine ⟨by kernel_rfl, ?_⟩; (conv => whnf))); refine callF v2 ⟨.refl _, trivial⟩ (by trivial) rfl ?_)
  conv => whnf
  first | refine callF s1 ⟨.refl _, .refl _, trivial⟩ (by trivial) rfl ?_ | ((repeat (refine ⟨by kernel_rfl, ?_⟩; (conv => whnf))); refine callF s1 ⟨.refl _, .refl _, trivial⟩ (by trivial) rfl ?_)
  conv => whnf
  first | refine callF v3 ⟨.refl _, trivial⟩ (by trivial) rfl ?_ | ((repeat (refine ⟨by kernel_rfl, ?_⟩; (conv => whnf))); refine callF v3 ⟨.refl _, trivial⟩ (by trivial) rfl ?_)
  conv => whnf
  first | refine callF awake2_ok trivial (by trivial) rfl ?_ | ((repeat (refine ⟨by kernel_rfl, ?_⟩; (conv => whnf))); refine callF awake2_ok trivial (by trivial) rfl ?_)
  conv => whnf
  refine fit64 (by omega) ?_
  conv => whnf
  refine fit64 (by omega) ?_
  conv => whnf
  refine fit64 (by omega) ?_
  conv => whnf
  refine splT (by rw [decide_eq_true rfl]) ?_
  conv => whnf
  refine fit64 (by omega) ?_
  conv => whnf
  refine fit64 (by omega) ?_
  conv => whnf
  refine fit64 (by omega) ?_
  conv => whnf
  refine splT (by rw [decide_eq_true rfl]) ?_
  conv => whnf
  refine fit64 (by omega) ?_
  conv => whnf
  refine fit64 (by omega) ?_
  conv => whnf
  refine fit64 (by omega) ?_
  conv => whnf
  (repeat (refine ⟨by kernel_rfl, ?_⟩; (conv => whnf)))
  refine ⟨(by (try simp only [true_and, and_true, Nat.sub_zero, Nat.zero_add, Int.toNat_natCast]) <;> omega), ?_⟩
  exact .bool_of (decide_eq_true rfl)
end Go.Abs

/- The law of common divisors. -/
set_option autoImplicit false
set_option maxHeartbeats 4000000
set_option maxRecDepth 10000
set_option linter.unusedVariables false
set_option linter.unusedSimpArgs false
namespace Go.Abs
open Go Go.Proofs

theorem isz_gcd {a b : Int} {s : Nat} (ha : isz a ≤ s) (hb : isz b ≤ s) : isz (Nat.gcd a.natAbs b.natAbs : Nat) ≤ s := by
  by_cases h : a = 0
  · subst h
    rw [Int.natAbs_zero, Nat.gcd_zero_left, isz_abs]; exact hb
  · refine Nat.le_trans (size_mono ?_) ha
    rw [Int.natAbs_natCast]
    exact Nat.gcd_le_left _ (by omega)

theorem IntegerDivisors_ok {x y w : AV} {a b c : Int} {s t u : Nat} (ha : IsI x a s) (hb : IsI y b t) (hc : IsI w c u) (hs : s ≤ 1099511627776) (ht : t ≤ 1099511627776) (hu : u ≤ 1099511627776) :
    ACall Try.prog 9 [x, y, w] (.f (.bool true)) := by
  have sa := ha.size
  have sb := hb.size
  have sc := hc.size
  have mac := isz_mul sa sc
  have mbc := isz_mul sb sc
  have m1 := iMul_ok ha hc (by omega)
  have m2 := iMul_ok hb hc (by omega)
  have mac' : isz (a * c) ≤ 2199023255552 := by omega
  have mbc' : isz (b * c) ≤ 2199023255552 := by omega
  have g1 := iGCD_ok (isI_int (a * c) mac') (isI_int (b * c) mbc') (by omega) (by omega)
  have sg := isz_gcd mac' mbc'
  obtain ⟨k, hk⟩ : ∃ k : Nat, Nat.gcd (a * c).natAbs (b * c).natAbs = k * c.natAbs := by
    refine ⟨Nat.gcd a.natAbs b.natAbs, ?_⟩
    rw [Int.natAbs_mul, Int.natAbs_mul, Nat.gcd_mul_right]
  obtain ⟨g, hg⟩ : ∃ g : Nat, Nat.gcd (a * c).natAbs (b * c).natAbs = g := ⟨_, rfl⟩
  rw [hg] at g1 sg hk
  have d1 := iDivMod_ok (isI_int (g : Nat) sg) hc (by omega) (by omega)
  have s1 := iSign_ok hc (by omega)
  have s2 := iSign_ok (isI_int (g : Nat) sg) (by omega)
  unfold idivRes at d1
  by_cases h0 : c = 0
  · rw [if_pos h0] at d1
    have hg0 : (g : Int) = 0 := by subst h0; simp at hk; omega
    rw [show sgn c = 0 by rw [h0]; rfl] at s1
    rw [show sgn (g : Nat) = 0 by rw [hg0]; rfl] at s2
    obtain ⟨na, ga, n, _, hga, hn⟩ := ha
    obtain ⟨nb, gb, m, _, hgb, hm⟩ := hb
    obtain ⟨nc, gc, l, _, hgc, hl⟩ := hc
    refine acall_rule env [0, 1, 2, 3, 4, 5, 6, 7, 8, 10, 11, 28] Try.func9 rfl rfl rfl rfl ?_
    conv => whnf
    first | refine callF m1 ⟨.refl _, .refl _, trivial⟩ (by trivial) rfl ?_ | ((repeat (refine ⟨by kernel_rfl, ?_⟩; (conv => whnf))); refine callF m1 ⟨.refl _, .refl _, trivial⟩ (by trivial) rfl ?_)
    conv => whnf
    first | refine callF m2 ⟨.refl _, .refl _, trivial⟩ (by trivial) rfl ?_ | ((repeat (refine ⟨by kernel_rfl, ?_⟩; (conv => whnf))); refine callF m2 ⟨.refl _, .refl _, trivial⟩ (by trivial) rfl ?_)
    conv => whnf
    first | refine callF g1 ⟨.refl _, .refl _, trivial⟩ (by trivial) rfl ?_ | ((repeat (refine ⟨by kernel_rfl, ?_⟩; (conv => whnf))); refine callF g1 ⟨.refl _, .refl _, trivial⟩ (by trivial) rfl ?_)
    conv => whnf
    first | refine callF d1 ⟨.refl _, .refl _, trivial⟩ (by trivial) rfl ?_ | ((repeat (refine ⟨by kernel_rfl, ?_⟩; (conv => whnf))); refine callF d1 ⟨.refl _, .refl _, trivial⟩ (by trivial) rfl ?_)
    conv => whnf
    first | refine callF s1 ⟨.refl _, trivial⟩ (by trivial) rfl ?_ | ((repeat (refine ⟨by kernel_rfl, ?_⟩; (conv => whnf))); refine callF s1 ⟨.refl _, trivial⟩ (by trivial) rfl ?_)
    conv => whnf
    first | refine callF g1 ⟨.refl _, .refl _, trivial⟩ (by trivial) rfl ?_ | ((repeat (refine ⟨by kernel_rfl, ?_⟩; (conv => whnf))); refine callF g1 ⟨.refl _, .refl _, trivial⟩ (by trivial) rfl ?_)
    conv => whnf
    first | refine callF s2 ⟨.refl _, trivial⟩ (by trivial) rfl ?_ | ((repeat (refine ⟨by kernel_rfl, ?_⟩; (conv => whnf))); refine callF s2 ⟨.refl _, trivial⟩ (by trivial) rfl ?_)
    conv => whnf
    first | refine callF awake2_ok trivial (by trivial) rfl ?_ | ((repeat (refine ⟨by kernel_rfl, ?_⟩; (conv => whnf))); refine callF awake2_ok trivial (by trivial) rfl ?_)
    conv => whnf
    (repeat (refine ⟨by kernel_rfl, ?_⟩; (conv => whnf)))
    refine ⟨(by (try simp only [true_and, and_true, Nat.sub_zero, Nat.zero_add, Int.toNat_natCast]) <;> omega), ?_⟩
    exact .refl _
  · rw [if_neg h0] at d1
    have hr : (g : Int) % c = 0 := by
      rw [hk, Int.natCast_mul]
      have : c ∣ (c.natAbs : Int) := Int.dvd_natAbs.2 (Int.dvd_refl c)
      exact Int.emod_eq_zero_of_dvd (Int.dvd_trans this (Int.dvd_mul_left _ _))
    rw [hr] at d1
    have s3 := iSign_ok (isI_int 0 (s := 1) (by decide)) (by omega)
    rw [show sgn 0 = 0 from rfl] at s3
    obtain ⟨q, hq⟩ : ∃ q : Int, (g : Int) / c = q := ⟨_, rfl⟩
    rw [hq] at d1
    obtain ⟨na, ga, n, _, hga, hn⟩ := ha
    obtain ⟨nb, gb, m, _, hgb, hm⟩ := hb
    obtain ⟨nc, gc, l, _, hgc, hl⟩ := hc
    refine acall_rule env [0, 1, 2, 3, 4, 5, 6, 7, 8, 10, 11, 28] Try.func9 rfl rfl rfl rfl ?_
    conv => whnf
    first | refine callF m1 ⟨.refl _, .refl _, trivial⟩ (by trivial) rfl ?_ | ((repeat (refine ⟨by kernel_rfl, ?_⟩; (conv => whnf))); refine callF m1 ⟨.refl _, .refl _, trivial⟩ (by trivial) rfl ?_)
    conv => whnf
    first | refine callF m2 ⟨.refl _, .refl _, trivial⟩ (by trivial) rfl ?_ | ((repeat (refine ⟨by kernel_rfl, ?_⟩; (conv => whnf))); refine callF m2 ⟨.refl _, .refl _, trivial⟩ (by trivial) rfl ?_)
    conv => whnf
    first | refine callF g1 ⟨.refl _, .refl _, trivial⟩ (by trivial) rfl ?_ | ((repeat (refine ⟨by kernel_rfl, ?_⟩; (conv => whnf))); refine callF g1 ⟨.refl _, .refl _, trivial⟩ (by trivial) rfl ?_)
    conv => whnf
    first | refine callF d1 ⟨.refl _, .refl _, trivial⟩ (by trivial) rfl ?_ | ((repeat (refine ⟨by kernel_rfl, ?_⟩; (conv => whnf))); refine callF d1 ⟨.refl _, .refl _, trivial⟩ (by trivial) rfl ?_)
    conv => whnf
    first | refine callF s3 ⟨.refl _, trivial⟩ (by trivial) rfl ?_ | ((repeat (refine ⟨by kernel_rfl, ?_⟩; (conv => whnf))); refine callF s3 ⟨.refl _, trivial⟩ (by trivial) rfl ?_)
    conv => whnf
    first | refine callF awake2_ok trivial (by trivial) rfl ?_ | ((repeat (refine ⟨by kernel_rfl, ?_⟩; (conv => whnf))); refine callF awake2_ok trivial (by trivial) rfl ?_)
    conv => whnf
    (repeat (refine ⟨by kernel_rfl, ?_⟩; (conv => whnf)))
    refine ⟨(by (try simp only [true_and, and_true, Nat.sub_zero, Nat.zero_add, Int.toNat_natCast]) <;> omega), ?_⟩
    exact .refl _
end Go.Abs

/- What comes in: lists of limbs, integers. -/
set_option autoImplicit false
set_option maxHeartbeats 4000000
set_option linter.unusedVariables false
set_option linter.unusedSimpArgs false
namespace Go.Abs
open Go Go.Proofs

theorem dec_limbs {c : List FV} {n : Nat} (h : Fits tab 22 c n) : ∃ (g : Nat → Nat) (m : Nat), Dig g m ∧ m + 1 ≤ n ∧ All2 FVle c [.sl 1 (fun j => [.int .u32 (g j : Nat)]) m none] := by
  obtain ⟨te, at_, len, bs, he, rfl, hel, hn⟩ := h.inv rfl
  have hte : te = ⟨.int .u32, 1, 4, [.int .u32 0]⟩ := by cases he; rfl
  have hx : ∀ i, i < len → ∃ x : Nat, x < 4294967296 ∧ at_ i = [.int .u32 (x : Int)] := by
    intro i hi
    have := (hel i hi).inv he
    subst hte
    obtain ⟨z, h1, h2, h3⟩ := this
    refine ⟨z.toNat, ?_, ?_⟩
    · have : z ≤ 4294967295 := h3
      have : 0 ≤ z := h2
      omega
    · have : 0 ≤ z := h2
      rw [h1, Int.toNat_of_nonneg this]
  obtain ⟨g, hg⟩ := pickF hx
  refine ⟨g, len, fun i hi => (hg i hi).1, ?_, ?_, trivial⟩
  · have := len_le_sumTo (bs := bs) (n := len) fun i hi => (hel i hi).pos
    omega
  · subst hte
    refine .sl (fun i hi => ?_) (.inl rfl)
    rw [(hg i hi).2]
    exact ⟨.refl _, trivial⟩

theorem dec_Int {c : List FV} {n : Nat} (h : Fits tab 24 c n) : ∃ (neg : Bool) (g : Nat → Nat) (m : Nat), Dig g m ∧ m + 1 ≤ n ∧ All2 FVle c [.bool neg, .sl 1 (fun j => [.int .u32 (g j : Nat)]) m none] := by
  obtain ⟨m0, hf, hn⟩ := h.inv rfl
  obtain ⟨a, b, c1, c2, h1, h2, rfl, rfl⟩ := hf.inv
  obtain ⟨a2, b2, c3, c4, h3, h4, rfl, rfl⟩ := h2.inv
  obtain ⟨rfl, rfl⟩ := h4.inv0
  obtain ⟨neg, rfl⟩ := h1.inv rfl
  obtain ⟨g, m, hg, hm, hle⟩ := dec_limbs h3
  refine ⟨neg, g, m, hg, by omega, ?_⟩
  rw [List.append_nil]
  exact ⟨.refl _, hle⟩

theorem all2_fle_fL : ∀ {c c' : List FV}, All2 FVle c c' → All2 AVle (fL c) (fL c')
  | [], [], _ => by simp [fL, All2]
  | x :: r, y :: r', ⟨a, b⟩ => by simp only [fL]; exact ⟨.f a, all2_fle_fL b⟩
  | [], _ :: _, h => h.elim
  | _ :: _, [], h => h.elim
theorem AVle.of_fL {c c' : List FV} (h : All2 FVle c c') : AVle (.agg (fL c)) (.agg (fL c')) := .agg (all2_fle_fL h)
theorem par_Int {c : List FV} {n : Nat} (h : Fits tab 24 c n) : ∃ (x : AV) (z : Int), IsI x z n ∧ AVle (.agg (fL c)) x := by
  obtain ⟨neg, g, m, hg, hm, hle⟩ := dec_Int h
  exact ⟨_, _, .mk neg g m n hg (by omega), .of_fL hle⟩
theorem par_limbs {c : FV} {n : Nat} (h : Fits tab 22 [c] n) : ∃ (g : Nat → Nat) (m : Nat), Dig g m ∧ m ≤ n ∧ AVle (.f c) (raw g m) := by
  obtain ⟨g, m, hg, hm, hle⟩ := dec_limbs h
  exact ⟨g, m, hg, by omega, .f hle.1⟩
theorem par_int {c : FV} {n : Nat} (h : Fits tab 3 [c] n) : ∃ z : Int, (-9223372036854775808 ≤ z ∧ z ≤ 9223372036854775807) ∧ AVle (.f c) (.f (.int .i64 z)) := by
  obtain ⟨z, hc, h1, h2⟩ := h.inv rfl
  cases hc
  exact ⟨z, ⟨h1, h2⟩, .refl _⟩
theorem par_int32 {c : FV} {n : Nat} (h : Fits tab 21 [c] n) : ∃ z : Int, (-2147483648 ≤ z ∧ z ≤ 2147483647) ∧ AVle (.f c) (.f (.int .i32 z)) := by
  obtain ⟨z, hc, h1, h2⟩ := h.inv rfl
  cases hc
  exact ⟨z, ⟨h1, h2⟩, .refl _⟩
end Go.Abs
