/- Contracts of the functions that the law calls, and the logic in which they are proved: part 4. -/
import Derived.Test.YtaghhfngfomhoaaGreatPk3
/- The reference's integers: DivMod, GCD. -/
set_option autoImplicit false
set_option maxHeartbeats 4000000
set_option maxRecDepth 10000
set_option linter.unusedVariables false
set_option linter.unusedSimpArgs false
namespace Go.Abs
open Go Go.Proofs

theorem rGCD_ok {x y : AV} {a b : Int} {s t : Nat} (ha : IsI x a s) (hb : IsI y b t) (hs : s ≤ 4398046510000) (ht : t ≤ 4398046510000) :
    ACall Tryz.prog 50 [x, y] (int (Nat.gcd a.natAbs b.natAbs : Nat)) := by
  obtain ⟨na, g, n, _, hg, hn⟩ := ha
  obtain ⟨nb, h, m, _, hh, hm⟩ := hb
  have d1 := refGCD_ok g h n m hg hh (by omega) (by omega)
  have sA := size_nval hg
  have sB := size_nval hh
  rw [ival_abs, ival_abs]
  have z := size_gcd_left (N := max s t) (Nat.le_trans sA (by omega)) (Nat.le_trans sB (by omega))
  have w := rMake_nat false (Nat.gcd (nval g n) (nval h m)) (by omega)
  refine acall_rule env [0, 1, 2, 3, 4] Tryz.func50 rfl rfl rfl rfl ?_
  conv => whnf
  first | refine callF d1 ⟨.refl _, .refl _, trivial⟩ (by trivial) rfl ?_ | ((repeat (refine ⟨by kernel_rfl, ?_⟩; (conv => whnf))); refine callF d1 ⟨.refl _, .refl _, trivial⟩ (by trivial) rfl ?_)
  conv => whnf
  first | refine callF w ⟨.refl _, .refl _, trivial⟩ (by trivial) rfl ?_ | ((repeat (refine ⟨by kernel_rfl, ?_⟩; (conv => whnf))); refine callF w ⟨.refl _, .refl _, trivial⟩ (by trivial) rfl ?_)
  conv => whnf
  (repeat (refine ⟨by kernel_rfl, ?_⟩; (conv => whnf)))
  refine ⟨(by (try simp only [true_and, and_true, Nat.sub_zero, Nat.zero_add, Int.toNat_natCast]) <;> omega), ?_⟩
  exact .refl _

theorem rDivMod_ok {x y : AV} {a b : Int} {s t : Nat} (ha : IsI x a s) (hb : IsI y b t) (hs : s ≤ 4398046500000) (ht : t ≤ 4398046500000) :
    ACall Tryz.prog 51 [x, y] (idivRes a b) := by
  have hab := rAbs_ok hb (by omega)
  obtain ⟨na, g, n, _, hg, hn⟩ := ha
  obtain ⟨nb, h, m, _, hh, hm⟩ := hb
  have d1 := refDivMod_ok g h n m hg hh (by omega) (by omega)
  have sA := size_nval hg
  have sB := size_nval hh
  rw [ival_abs] at hab
  generalize nval g n = A at *
  generalize nval h m = B at *
  unfold idivRes
  unfold divRes at d1
  have hb0 : ival nb B = 0 ↔ B = 0 := by cases nb <;> simp [ival]
  by_cases hB : B = 0
  · rw [if_pos hB] at d1
    rw [if_pos (hb0.2 hB)]
    refine acall_rule env [0, 1, 2, 3, 4, 5, 6, 7, 8, 19, 34, 40] Tryz.func51 rfl rfl rfl rfl ?_
    conv => whnf
    first | refine callF d1 ⟨.refl _, .refl _, trivial⟩ (by trivial) rfl ?_ | ((repeat (refine ⟨by kernel_rfl, ?_⟩; (conv => whnf))); refine callF d1 ⟨.refl _, .refl _, trivial⟩ (by trivial) rfl ?_)
    conv => whnf
    refine ⟨(by (try simp only [true_and, and_true, Nat.sub_zero, Nat.zero_add, Int.toNat_natCast]) <;> omega), ?_⟩
    exact .tup ⟨.int_zero, .int_zero, .refl _, trivial⟩
  have hB0 : 0 < B := by omega
  rw [if_neg hB] at d1
  rw [if_neg (fun h => hB (hb0.1 h))]
  have hlt : A % B < B := Nat.mod_lt _ hB0
  have sq : size (A / B) ≤ s := Nat.le_trans (size_le_of (Nat.div_le_self _ _) sA) hn
  have sr : size (A % B) ≤ t := Nat.le_trans (size_le_of (Nat.le_of_lt hlt) sB) hm
  have w0 := rMake_nat (!(na == nb)) (A / B) (by omega)
  have w2 := rMake_nat na (A % B) (by omega)
  have ep := ediv_pos A B
  have en := ediv_np A B hB0
  by_cases hr : A % B = 0
  · rw [if_pos hr, if_pos hr] at en
    have hq : ival na A / ival nb B = ival (!(na == nb)) (A / B) := by
      cases na <;> cases nb
      · exact ep.1
      · show (A : Int) / -(B : Int) = -((A / B : Nat) : Int); rw [Int.ediv_neg, ep.1]
      · exact en.1
      · show -(A : Int) / -(B : Int) = ((A / B : Nat) : Int); rw [Int.ediv_neg, en.1, Int.neg_neg]
    have hq2 : ival na A % ival nb B = 0 := by
      rw [hr] at ep
      cases na <;> cases nb
      · exact ep.2
      · show (A : Int) % -(B : Int) = _; rw [Int.emod_neg, ep.2]; rfl
      · exact en.2
      · show -(A : Int) % -(B : Int) = _; rw [Int.emod_neg, en.2]; rfl
    rw [hq, hq2]
    rw [hr] at d1 w2
    rw [show ival na 0 = 0 by cases na <;> rfl] at w2
    refine acall_rule env [0, 1, 2, 3, 4, 5, 6, 7, 8, 19, 34, 40] Tryz.func51 rfl rfl rfl rfl ?_
    conv => whnf
    first | refine callF d1 ⟨.refl _, .refl _, trivial⟩ (by trivial) rfl ?_ | ((repeat (refine ⟨by kernel_rfl, ?_⟩; (conv => whnf))); refine callF d1 ⟨.refl _, .refl _, trivial⟩ (by trivial) rfl ?_)
    conv => whnf
    first | refine callF w0 ⟨.refl _, .refl _, trivial⟩ (by trivial) rfl ?_ | ((repeat (refine ⟨by kernel_rfl, ?_⟩; (conv => whnf))); refine callF w0 ⟨.refl _, .refl _, trivial⟩ (by trivial) rfl ?_)
    conv => whnf
    first | refine callF w2 ⟨.refl _, .refl _, trivial⟩ (by trivial) rfl ?_ | ((repeat (refine ⟨by kernel_rfl, ?_⟩; (conv => whnf))); refine callF w2 ⟨.refl _, .refl _, trivial⟩ (by trivial) rfl ?_)
    conv => whnf
    (repeat (refine ⟨by kernel_rfl, ?_⟩; (conv => whnf)))
    refine ⟨(by (try simp only [true_and, and_true, Nat.sub_zero, Nat.zero_add, Int.toNat_natCast]) <;> omega), ?_⟩
    exact .refl _
  · rw [if_neg hr, if_neg hr] at en
    cases na
    · have hq : ival false A / ival nb B = ival (!(false == nb)) (A / B) := by
        cases nb
        · exact ep.1
        · show (A : Int) / -(B : Int) = -((A / B : Nat) : Int); rw [Int.ediv_neg, ep.1]
      have hq2 : ival false A % ival nb B = ival false (A % B) := by
        cases nb
        · exact ep.2
        · show (A : Int) % -(B : Int) = _; rw [Int.emod_neg, ep.2]; rfl
      rw [hq, hq2]
      have e : int (ival false (A % B)) = .agg [.f (.bool false), nat (A % B)] := int_nonneg _
      rw [e] at w2 ⊢
      refine acall_rule env [0, 1, 2, 3, 4, 5, 6, 7, 8, 19, 34, 40] Tryz.func51 rfl rfl rfl rfl ?_
      conv => whnf
      first | refine callF d1 ⟨.refl _, .refl _, trivial⟩ (by trivial) rfl ?_ | ((repeat (refine ⟨by kernel_rfl, ?_⟩; (conv => whnf))); refine callF d1 ⟨.refl _, .refl _, trivial⟩ (by trivial) rfl ?_)
      conv => whnf
      first | refine callF w0 ⟨.refl _, .refl _, trivial⟩ (by trivial) rfl ?_ | ((repeat (refine ⟨by kernel_rfl, ?_⟩; (conv => whnf))); refine callF w0 ⟨.refl _, .refl _, trivial⟩ (by trivial) rfl ?_)
      conv => whnf
      first | refine callF w2 ⟨.refl _, .refl _, trivial⟩ (by trivial) rfl ?_ | ((repeat (refine ⟨by kernel_rfl, ?_⟩; (conv => whnf))); refine callF w2 ⟨.refl _, .refl _, trivial⟩ (by trivial) rfl ?_)
      conv => whnf
      (repeat (refine ⟨by kernel_rfl, ?_⟩; (conv => whnf)))
      refine ⟨(by (try simp only [true_and, and_true, Nat.sub_zero, Nat.zero_add, Int.toNat_natCast]) <;> omega), ?_⟩
      exact .refl _
    · have e : int (ival true (A % B)) = .agg [.f (.bool true), nat (A % B)] := by
        unfold int
        rw [ival_neg, ival_abs, decide_eq_true (by omega)]; rfl
      have hz : isz (ival true (A % B)) ≤ t := by rw [isz, ival_abs]; exact sr
      have hzb : isz (B : Int) ≤ t := by rw [isz_nat]; omega
      have a1 := rAdd_ok (isI_int (ival true (A % B)) hz) (isI_int (B : Int) hzb) (by omega) (by omega)
      rw [show ival true (A % B) + (B : Int) = ival false (B - A % B) by simp only [ival_t, ival_f]; omega] at a1
      have hzq : ∀ c, isz (ival c (A / B)) ≤ s := fun c => by rw [isz, ival_abs]; exact sq
      have f1 := rFromInt_ok 1 (by omega)
      have h1 : isz 1 ≤ 1 := by decide
      have hq2 : ival true A % ival nb B = ival false (B - A % B) := by
        cases nb
        · exact en.2
        · show -(A : Int) % -(B : Int) = _; rw [Int.emod_neg, en.2]; rfl
      rw [hq2]
      rw [e] at w2 a1
      cases nb
      · have hq : ival true A / ival false B = ival true (A / B) - 1 := by
          rw [show ival true A / ival false B = -(A : Int) / (B : Int) from rfl, en.1]
          show -((A / B : Nat) + 1 : Int) = -((A / B : Nat) : Int) - 1
          omega
        rw [hq]
        have s1 := rSub_ok (isI_int _ (hzq true)) (isI_int 1 h1) (by omega) (by omega)
        refine acall_rule env [0, 1, 2, 3, 4, 5, 6, 7, 8, 19, 34, 40] Tryz.func51 rfl rfl rfl rfl ?_
        conv => whnf
        first | refine callF d1 ⟨.refl _, .refl _, trivial⟩ (by trivial) rfl ?_ | ((repeat (refine ⟨by kernel_rfl, ?_⟩; (conv => whnf))); refine callF d1 ⟨.refl _, .refl _, trivial⟩ (by trivial) rfl ?_)
        conv => whnf
        first | refine callF w0 ⟨.refl _, .refl _, trivial⟩ (by trivial) rfl ?_ | ((repeat (refine ⟨by kernel_rfl, ?_⟩; (conv => whnf))); refine callF w0 ⟨.refl _, .refl _, trivial⟩ (by trivial) rfl ?_)
        conv => whnf
        first | refine callF w2 ⟨.refl _, .refl _, trivial⟩ (by trivial) rfl ?_ | ((repeat (refine ⟨by kernel_rfl, ?_⟩; (conv => whnf))); refine callF w2 ⟨.refl _, .refl _, trivial⟩ (by trivial) rfl ?_)
        conv => whnf
        first | refine callF hab ⟨.refl _, trivial⟩ (by trivial) rfl ?_ | ((repeat (refine ⟨by kernel_rfl, ?_⟩; (conv => whnf))); refine callF hab ⟨.refl _, trivial⟩ (by trivial) rfl ?_)
        conv => whnf
        first | refine callF a1 ⟨.refl _, .refl _, trivial⟩ (by trivial) rfl ?_ | ((repeat (refine ⟨by kernel_rfl, ?_⟩; (conv => whnf))); refine callF a1 ⟨.refl _, .refl _, trivial⟩ (by trivial) rfl ?_)
        conv => whnf
        first | refine callF f1 ⟨.refl _, trivial⟩ (by trivial) rfl ?_ | ((repeat (refine ⟨by kernel_rfl, ?_⟩; (conv => whnf))); refine callF f1 ⟨.refl _, trivial⟩ (by trivial) rfl ?_)
        conv => whnf
        first | refine callF s1 ⟨.refl _, .refl _, trivial⟩ (by trivial) rfl ?_ | ((repeat (refine ⟨by kernel_rfl, ?_⟩; (conv => whnf))); refine callF s1 ⟨.refl _, .refl _, trivial⟩ (by trivial) rfl ?_)
        conv => whnf
        (repeat (refine ⟨by kernel_rfl, ?_⟩; (conv => whnf)))
        refine ⟨(by (try simp only [true_and, and_true, Nat.sub_zero, Nat.zero_add, Int.toNat_natCast]) <;> omega), ?_⟩
        exact .refl _
      · have hq : ival true A / ival true B = ival false (A / B) + 1 := by
          rw [show ival true A / ival true B = -(A : Int) / -(B : Int) from rfl, Int.ediv_neg, en.1, Int.neg_neg]
          rfl
        rw [hq]
        have s1 := rAdd_ok (isI_int _ (hzq false)) (isI_int 1 h1) (by omega) (by omega)
        refine acall_rule env [0, 1, 2, 3, 4, 5, 6, 7, 8, 19, 34, 40] Tryz.func51 rfl rfl rfl rfl ?_
        conv => whnf
        first | refine callF d1 ⟨.refl _, .refl _, trivial⟩ (by trivial) rfl ?_ | ((repeat (refine ⟨by kernel_rfl, ?_⟩; (conv => whnf))); refine callF d1 ⟨.refl _, .refl _, trivial⟩ (by trivial) rfl ?_)
        conv => whnf
        first | refine callF w0 ⟨.refl _, .refl _, trivial⟩ (by trivial) rfl ?_ | ((repeat (refine ⟨by kernel_rfl, ?_⟩; (conv => whnf))); refine callF w0 ⟨.refl _, .refl _, trivial⟩ (by trivial) rfl ?_)
        conv => whnf
        first | refine callF w2 ⟨.refl _, .refl _, trivial⟩ (by trivial) rfl ?_ | ((repeat (refine ⟨by kernel_rfl, ?_⟩; (conv => whnf))); refine callF w2 ⟨.refl _, .refl _, trivial⟩ (by trivial) rfl ?_)
        conv => whnf
        first | refine callF hab ⟨.refl _, trivial⟩ (by trivial) rfl ?_ | ((repeat (refine ⟨by kernel_rfl, ?_⟩; (conv => whnf))); refine callF hab ⟨.refl _, trivial⟩ (by trivial) rfl ?_)
        conv => whnf
        first | refine callF a1 ⟨.refl _, .refl _, trivial⟩ (by trivial) rfl ?_ | ((repeat (refine ⟨by kernel_rfl, ?_⟩; (conv => whnf))); refine callF a1 ⟨.refl _, .refl _, trivial⟩ (by trivial) rfl ?_)
        conv => whnf
        first | refine callF f1 ⟨.refl _, trivial⟩ (by trivial) rfl ?_ | ((repeat (refine ⟨by kernel_rfl, ?_⟩; (conv => whnf))); refine callF f1 ⟨.refl _, trivial⟩ (by trivial) rfl ?_)
        conv => whnf
        first | refine callF s1 ⟨.refl _, .refl _, trivial⟩ (by trivial) rfl ?_ | ((repeat (refine ⟨by kernel_rfl, ?_⟩; (conv => whnf))); refine callF s1 ⟨.refl _, .refl _, trivial⟩ (by trivial) rfl ?_)
        conv => whnf
        (repeat (refine ⟨by kernel_rfl, ?_⟩; (conv => whnf)))
        refine ⟨(by (try simp only [true_and, and_true, Nat.sub_zero, Nat.zero_add, Int.toNat_natCast]) <;> omega), ?_⟩
        exact .refl _

end Go.Abs

/- Rational numbers: reduced, Norm, parts, New. -/
set_option autoImplicit false
set_option maxHeartbeats 4000000
set_option maxRecDepth 10000
set_option linter.unusedVariables false
set_option linter.unusedSimpArgs false
namespace Go.Abs
open Go Go.Proofs

theorem bitlen_zero (A : Nat) : (bitlen A : Int) = 0 ↔ A = 0 := by
  unfold bitlen
  split
  · simp [*]
  · rename_i h; constructor
    · intro h; omega
    · intro h'; exact absurd h' h
theorem bitlen_one (A : Nat) : (bitlen A : Int) = 1 ↔ A = 1 := by
  unfold bitlen
  split
  · rename_i h; subst h; simp
  · rename_i h
    have h0 := Nat.log2_self_le h
    constructor
    · intro h1
      have : A.log2 = 0 := by omega
      have h2 : A < 2 ^ 1 := (Nat.log2_lt h).1 (by omega)
      rw [Nat.pow_one] at h2
      omega
    · intro h1; subst h1; rfl

theorem sgn_iff {a : Int} : (sgn a = 0) ↔ a = 0 := by unfold sgn; repeat' split
                                                      all_goals omega
theorem qone_ok : ACall Tryz.prog 58 [] (nat 1) := by
  have f := FromUint64_ok 1 (by omega)
  refine acall_rule env [0] Tryz.func58 rfl rfl rfl rfl ?_
  conv => whnf
  first | refine callF f ⟨.refl _, trivial⟩ (by trivial) rfl ?_ | ((repeat (refine ⟨by kernel_rfl, ?_⟩; (conv => whnf))); refine callF f ⟨.refl _, trivial⟩ (by trivial) rfl ?_)
  conv => whnf
  (repeat (refine ⟨by kernel_rfl, ?_⟩; (conv => whnf)))
  refine ⟨(by (try simp only [true_and, and_true, Nat.sub_zero, Nat.zero_add, Int.toNat_natCast]) <;> omega), ?_⟩
  exact .refl _
theorem qisOne_ok (A : Nat) (h : size A ≤ 4398046511104) : ACall Tryz.prog 102 [nat A] (.f (.bool (decide (A = 1)))) := by
  have b := Bits_ok (digit A) (size A) (digit_Dig _ _) h
  rw [nval_digit_size] at b
  have h1 := bitlen_one A
  refine acall_rule env [0, 2] Tryz.func102 rfl rfl rfl rfl ?_
  conv => whnf
  first | refine callF b ⟨.refl _, trivial⟩ (by trivial) rfl ?_ | ((repeat (refine ⟨by kernel_rfl, ?_⟩; (conv => whnf))); refine callF b ⟨.refl _, trivial⟩ (by trivial) rfl ?_)
  conv => whnf
  (repeat (refine ⟨by kernel_rfl, ?_⟩; (conv => whnf)))
  refine ⟨(by (try simp only [true_and, and_true, Nat.sub_zero, Nat.zero_add, Int.toNat_natCast]) <;> omega), ?_⟩
  exact .bool_of (by simp only [← h1])

theorem reduced_ok {x : AV} {z : Int} {s : Nat} (hx : IsI x z s) (h : Nat → Nat) (m : Nat) (hh : Dig h m) (hs : s ≤ 4398046510000) (hm : m ≤ 4398046510000) (h0 : nval h m ≠ 0) :
    ACall Tryz.prog 86 [x, raw h m] (rat (mkRat z (nval h m))) := by
  have n1 := iNorm_ok hx (by omega)
  have o1 := qone_ok
  have sz := hx.size
  have sD := size_nval hh
  have g1 := GCD_ok (digit z.natAbs) h (size z.natAbs) m (digit_Dig _ _) hh (by unfold isz at sz; omega) (by omega)
  rw [nval_digit_size] at g1
  have t1 := Trim_ok h m hh (by omega)
  have d2 := fun G hG => DivMod_ok h (digit G) m (size G) hh (digit_Dig _ _) (by omega) hG
  simp only [nval_digit_size] at d2
  obtain ⟨nx, gx, lx, _, hgx, hlx⟩ := hx
  generalize ival nx (nval gx lx) = z at *
  generalize nval h m = D at *
  have sG : size (Nat.gcd z.natAbs D) ≤ 4398046510000 := size_le_of (Nat.gcd_le_right _ (by omega)) (by omega)
  have hG0 : Nat.gcd z.natAbs D ≠ 0 := fun h => h0 (Nat.eq_zero_of_gcd_eq_zero_right h)
  replace d2 := d2 (Nat.gcd z.natAbs D) (by omega)
  have d1 := DivMod_nn z.natAbs (Nat.gcd z.natAbs D) (by unfold isz at sz; omega) (by omega)
  rw [divRes, if_neg hG0] at d1 d2
  have i1 := qisOne_ok (Nat.gcd z.natAbs D) (by omega)
  have t2 := Trim_ok (digit (D / Nat.gcd z.natAbs D)) (size (D / Nat.gcd z.natAbs D)) (digit_Dig _ _) (Nat.le_trans (size_mono (Nat.div_le_self _ _)) (by omega))
  rw [nval_digit_size] at t2
  have hr := mk_rat z h0
  by_cases hz : z = 0
  · subst hz
    rw [Rat.zero_mkRat]
    refine acall_rule env [0, 1, 2, 4, 5, 11, 21] Tryz.func86 rfl rfl rfl rfl ?_
    conv => whnf
    first | refine callF n1 ⟨.refl _, trivial⟩ (by trivial) rfl ?_ | ((repeat (refine ⟨by kernel_rfl, ?_⟩; (conv => whnf))); refine callF n1 ⟨.refl _, trivial⟩ (by trivial) rfl ?_)
    conv => whnf
    first | refine callF o1 trivial (by trivial) rfl ?_ | ((repeat (refine ⟨by kernel_rfl, ?_⟩; (conv => whnf))); refine callF o1 trivial (by trivial) rfl ?_)
    conv => whnf
    (repeat (refine ⟨by kernel_rfl, ?_⟩; (conv => whnf)))
    refine ⟨(by (try simp only [true_and, and_true, Nat.sub_zero, Nat.zero_add, Int.toNat_natCast]) <;> omega), ?_⟩
    exact .refl _
  rw [hr]
  have hz1 : 0 < size z.natAbs := size_pos (by omega)
  by_cases hG : Nat.gcd z.natAbs D = 1
  · rw [hG] at g1 i1 ⊢
    rw [Nat.div_one, Nat.div_one]
    obtain ⟨L, hL⟩ : ∃ L, size z.natAbs = L := ⟨_, rfl⟩
    refine acall_rule env [0, 1, 2, 4, 5, 11, 21] Tryz.func86 rfl rfl rfl rfl ?_
    conv => whnf
    first | refine callF n1 ⟨.refl _, trivial⟩ (by trivial) rfl ?_ | ((repeat (refine ⟨by kernel_rfl, ?_⟩; (conv => whnf))); refine callF n1 ⟨.refl _, trivial⟩ (by trivial) rfl ?_)
    conv => whnf
    refine splF (by simp only [decide_eq_true_eq, decide_eq_false_iff_not, Bool.not_eq_true', Bool.not_eq_false', gt_iff_lt, ge_iff_le] <;> omega) ?_
    conv => whnf
    first | refine callF g1 ⟨.refl _, .refl _, trivial⟩ (by trivial) rfl ?_ | ((repeat (refine ⟨by kernel_rfl, ?_⟩; (conv => whnf))); refine callF g1 ⟨.refl _, .refl _, trivial⟩ (by trivial) rfl ?_)
    conv => whnf
    first | refine callF i1 ⟨.refl _, trivial⟩ (by trivial) rfl ?_ | ((repeat (refine ⟨by kernel_rfl, ?_⟩; (conv => whnf))); refine callF i1 ⟨.refl _, trivial⟩ (by trivial) rfl ?_)
    conv => whnf
    first | refine callF t1 ⟨.refl _, trivial⟩ (by trivial) rfl ?_ | ((repeat (refine ⟨by kernel_rfl, ?_⟩; (conv => whnf))); refine callF t1 ⟨.refl _, trivial⟩ (by trivial) rfl ?_)
    conv => whnf
    (repeat (refine ⟨by kernel_rfl, ?_⟩; (conv => whnf)))
    refine ⟨(by (try simp only [true_and, and_true, Nat.sub_zero, Nat.zero_add, Int.toNat_natCast]) <;> omega), ?_⟩
    exact .refl _
  · rw [decide_eq_false hG] at i1
    refine acall_rule env [0, 1, 2, 4, 5, 11, 21] Tryz.func86 rfl rfl rfl rfl ?_
    conv => whnf
    first | refine callF n1 ⟨.refl _, trivial⟩ (by trivial) rfl ?_ | ((repeat (refine ⟨by kernel_rfl, ?_⟩; (conv => whnf))); refine callF n1 ⟨.refl _, trivial⟩ (by trivial) rfl ?_)
    conv => whnf
    refine splF (by simp only [decide_eq_true_eq, decide_eq_false_iff_not, Bool.not_eq_true', Bool.not_eq_false', gt_iff_lt, ge_iff_le] <;> omega) ?_
    conv => whnf
    first | refine callF g1 ⟨.refl _, .refl _, trivial⟩ (by trivial) rfl ?_ | ((repeat (refine ⟨by kernel_rfl, ?_⟩; (conv => whnf))); refine callF g1 ⟨.refl _, .refl _, trivial⟩ (by trivial) rfl ?_)
    conv => whnf
    first | refine callF i1 ⟨.refl _, trivial⟩ (by trivial) rfl ?_ | ((repeat (refine ⟨by kernel_rfl, ?_⟩; (conv => whnf))); refine callF i1 ⟨.refl _, trivial⟩ (by trivial) rfl ?_)
    conv => whnf
    first | refine callF d1 ⟨.refl _, .refl _, trivial⟩ (by trivial) rfl ?_ | ((repeat (refine ⟨by kernel_rfl, ?_⟩; (conv => whnf))); refine callF d1 ⟨.refl _, .refl _, trivial⟩ (by trivial) rfl ?_)
    conv => whnf
    first | refine callF d2 ⟨.refl _, .refl _, trivial⟩ (by trivial) rfl ?_ | ((repeat (refine ⟨by kernel_rfl, ?_⟩; (conv => whnf))); refine callF d2 ⟨.refl _, .refl _, trivial⟩ (by trivial) rfl ?_)
    conv => whnf
    first | refine callF t2 ⟨.refl _, trivial⟩ (by trivial) rfl ?_ | ((repeat (refine ⟨by kernel_rfl, ?_⟩; (conv => whnf))); refine callF t2 ⟨.refl _, trivial⟩ (by trivial) rfl ?_)
    conv => whnf
    (repeat (refine ⟨by kernel_rfl, ?_⟩; (conv => whnf)))
    refine ⟨(by (try simp only [true_and, and_true, Nat.sub_zero, Nat.zero_add, Int.toNat_natCast]) <;> omega), ?_⟩
    exact .refl _

theorem qFromInt_ok (v : Int) (h : -9223372036854775808 ≤ v ∧ v ≤ 9223372036854775807) : ACall Tryz.prog 21 [.f (.int .i64 v)] (rat (v : Rat)) := by
  have f := iFromInt_ok v h
  have o := qone_ok
  refine acall_rule env [0, 2] Tryz.func21 rfl rfl rfl rfl ?_
  conv => whnf
  first | refine callF f ⟨.refl _, trivial⟩ (by trivial) rfl ?_ | ((repeat (refine ⟨by kernel_rfl, ?_⟩; (conv => whnf))); refine callF f ⟨.refl _, trivial⟩ (by trivial) rfl ?_)
  conv => whnf
  first | refine callF o trivial (by trivial) rfl ?_ | ((repeat (refine ⟨by kernel_rfl, ?_⟩; (conv => whnf))); refine callF o trivial (by trivial) rfl ?_)
  conv => whnf
  (repeat (refine ⟨by kernel_rfl, ?_⟩; (conv => whnf)))
  refine ⟨(by (try simp only [true_and, and_true, Nat.sub_zero, Nat.zero_add, Int.toNat_natCast]) <;> omega), ?_⟩
  exact .refl _

/-- as it comes, with the denominator apart -/
theorem parts_ok {x : AV} {q : Rat} {s : Nat} (hx : IsR x q s) (hs : s ≤ 4398046510000) :
    ∃ (p : AV) (P : Int) (h : Nat → Nat) (m : Nat), ACall Tryz.prog 53 [x] (.tup [p, rint false h m]) ∧ IsI p P s ∧ Dig h m ∧ m ≤ s ∧ nval h m ≠ 0 ∧ q = mkRat P (nval h m) := by
  obtain ⟨neg, g, n, h, m, _, hg, hh, hn, hm, h1⟩ := hx
  have b1 := Bits_ok h m hh (by omega)
  have hb := bitlen_zero (nval h m)
  by_cases h0 : nval h m = 0
  · refine ⟨int 0, 0, digit 1, size 1, ?_, isI_int 0 (Nat.zero_le _), digit_Dig _ _, h1, by rw [nval_digit_size]; decide, by rw [h0, Rat.mkRat_zero, Rat.zero_mkRat]⟩
    have f := iFromInt_ok 1 (by decide)
    rw [h0] at b1
    refine acall_rule env [0, 1, 2, 3, 7] Tryz.func53 rfl rfl rfl rfl ?_
    conv => whnf
    first | refine callF b1 ⟨.refl _, trivial⟩ (by trivial) rfl ?_ | ((repeat (refine ⟨by kernel_rfl, ?_⟩; (conv => whnf))); refine callF b1 ⟨.refl _, trivial⟩ (by trivial) rfl ?_)
    conv => whnf
    first | refine callF f ⟨.refl _, trivial⟩ (by trivial) rfl ?_ | ((repeat (refine ⟨by kernel_rfl, ?_⟩; (conv => whnf))); refine callF f ⟨.refl _, trivial⟩ (by trivial) rfl ?_)
    conv => whnf
    refine ⟨(by (try simp only [true_and, and_true, Nat.sub_zero, Nat.zero_add, Int.toNat_natCast]) <;> omega), ?_⟩
    exact .tup ⟨.int_zero, .refl _, trivial⟩
  · refine ⟨rint neg g n, _, h, m, ?_, .mk neg g n s hg hn, hh, hm, h0, rfl⟩
    have hb2 : ¬ (bitlen (nval h m) : Int) = 0 := fun h => h0 (hb.1 h)
    obtain ⟨B, hB⟩ : ∃ B : Int, (bitlen (nval h m) : Int) = B := ⟨_, rfl⟩
    rw [hB] at b1 hb2
    refine acall_rule env [0, 1, 2, 3, 7] Tryz.func53 rfl rfl rfl rfl ?_
    conv => whnf
    first | refine callF b1 ⟨.refl _, trivial⟩ (by trivial) rfl ?_ | ((repeat (refine ⟨by kernel_rfl, ?_⟩; (conv => whnf))); refine callF b1 ⟨.refl _, trivial⟩ (by trivial) rfl ?_)
    conv => whnf
    refine splF (by simp only [decide_eq_true_eq, decide_eq_false_iff_not, Bool.not_eq_true', Bool.not_eq_false', gt_iff_lt, ge_iff_le] <;> omega) ?_
    conv => whnf
    (repeat (refine ⟨by kernel_rfl, ?_⟩; (conv => whnf)))
    refine ⟨(by (try simp only [true_and, and_true, Nat.sub_zero, Nat.zero_add, Int.toNat_natCast]) <;> omega), ?_⟩
    exact .refl _

theorem qNorm_ok {x : AV} {q : Rat} {s : Nat} (hx : IsR x q s) (hs : s ≤ 4398046510000) : ACall Tryz.prog 59 [x] (rat q) := by
  obtain ⟨neg, g, n, h, m, _, hg, hh, hn, hm, h1⟩ := hx
  have b1 := Bits_ok h m hh (by omega)
  have hb := bitlen_zero (nval h m)
  by_cases h0 : nval h m = 0
  · have f := qFromInt_ok 0 (by decide)
    rw [h0] at b1 ⊢
    rw [Rat.mkRat_zero]
    refine acall_rule env [0, 1, 2, 6] Tryz.func59 rfl rfl rfl rfl ?_
    conv => whnf
    first | refine callF b1 ⟨.refl _, trivial⟩ (by trivial) rfl ?_ | ((repeat (refine ⟨by kernel_rfl, ?_⟩; (conv => whnf))); refine callF b1 ⟨.refl _, trivial⟩ (by trivial) rfl ?_)
    conv => whnf
    first | refine callF f ⟨.refl _, trivial⟩ (by trivial) rfl ?_ | ((repeat (refine ⟨by kernel_rfl, ?_⟩; (conv => whnf))); refine callF f ⟨.refl _, trivial⟩ (by trivial) rfl ?_)
    conv => whnf
    (repeat (refine ⟨by kernel_rfl, ?_⟩; (conv => whnf)))
    refine ⟨(by (try simp only [true_and, and_true, Nat.sub_zero, Nat.zero_add, Int.toNat_natCast]) <;> omega), ?_⟩
    exact .refl _
  · have r := reduced_ok (.mk neg g n s hg hn) h m hh hs (by omega) h0
    have hb2 : ¬ (bitlen (nval h m) : Int) = 0 := fun h => h0 (hb.1 h)
    obtain ⟨B, hB⟩ : ∃ B : Int, (bitlen (nval h m) : Int) = B := ⟨_, rfl⟩
    rw [hB] at b1 hb2
    refine acall_rule env [0, 1, 2, 6] Tryz.func59 rfl rfl rfl rfl ?_
    conv => whnf
    first | refine callF b1 ⟨.refl _, trivial⟩ (by trivial) rfl ?_ | ((repeat (refine ⟨by kernel_rfl, ?_⟩; (conv => whnf))); refine callF b1 ⟨.refl _, trivial⟩ (by trivial) rfl ?_)
    conv => whnf
    refine splF (by simp only [decide_eq_true_eq, decide_eq_false_iff_not, Bool.not_eq_true', Bool.not_eq_false', gt_iff_lt, ge_iff_le] <;> omega) ?_
    conv => whnf
    first | refine callF r ⟨.refl _, .refl _, trivial⟩ (by trivial) rfl ?_ | ((repeat (refine ⟨by kernel_rfl, ?_⟩; (conv => whnf))); refine callF r ⟨.refl _, .refl _, trivial⟩ (by trivial) rfl ?_)
    conv => whnf
    (repeat (refine ⟨by kernel_rfl, ?_⟩; (conv => whnf)))
    refine ⟨(by (try simp only [true_and, and_true, Nat.sub_zero, Nat.zero_add, Int.toNat_natCast]) <;> omega), ?_⟩
    exact .refl _

theorem qSign_ok {x : AV} {q : Rat} {s : Nat} (hx : IsR x q s) (hs : s ≤ 4398046510000) : ACall Tryz.prog 20 [x] (.f (.int .i64 (rcmp q 0))) := by
  obtain ⟨neg, g, n, h, m, _, hg, hh, hn, hm, h1⟩ := hx
  have b1 := Bits_ok h m hh (by omega)
  have hb := bitlen_zero (nval h m)
  by_cases h0 : nval h m = 0
  · rw [h0] at b1 ⊢
    rw [Rat.mkRat_zero, rcmp_self]
    refine acall_rule env [0, 1, 2, 6] Tryz.func20 rfl rfl rfl rfl ?_
    conv => whnf
    first | refine callF b1 ⟨.refl _, trivial⟩ (by trivial) rfl ?_ | ((repeat (refine ⟨by kernel_rfl, ?_⟩; (conv => whnf))); refine callF b1 ⟨.refl _, trivial⟩ (by trivial) rfl ?_)
    conv => whnf
    (repeat (refine ⟨by kernel_rfl, ?_⟩; (conv => whnf)))
    refine ⟨(by (try simp only [true_and, and_true, Nat.sub_zero, Nat.zero_add, Int.toNat_natCast]) <;> omega), ?_⟩
    exact .refl _
  · have r := iSign_ok (.mk neg g n s hg hn) (by omega)
    have hs : sgn (mkRat (ival neg (nval g n)) (nval h m)).num = sgn (ival neg (nval g n)) := by
      have h3 := mk_neg (ival neg (nval g n)) h0
      have h2 := Rat.mkRat_eq_zero (n := ival neg (nval g n)) h0
      rw [← Rat.num_eq_zero] at h2
      unfold sgn; simp only [h3, h2]
    rw [rcmp_num, hs]
    have hb2 : ¬ (bitlen (nval h m) : Int) = 0 := fun h => h0 (hb.1 h)
    obtain ⟨B, hB⟩ : ∃ B : Int, (bitlen (nval h m) : Int) = B := ⟨_, rfl⟩
    rw [hB] at b1 hb2
    refine acall_rule env [0, 1, 2, 6] Tryz.func20 rfl rfl rfl rfl ?_
    conv => whnf
    first | refine callF b1 ⟨.refl _, trivial⟩ (by trivial) rfl ?_ | ((repeat (refine ⟨by kernel_rfl, ?_⟩; (conv => whnf))); refine callF b1 ⟨.refl _, trivial⟩ (by trivial) rfl ?_)
    conv => whnf
    refine splF (by simp only [decide_eq_true_eq, decide_eq_false_iff_not, Bool.not_eq_true', Bool.not_eq_false', gt_iff_lt, ge_iff_le] <;> omega) ?_
    conv => whnf
    first | refine callF r ⟨.refl _, trivial⟩ (by trivial) rfl ?_ | ((repeat (refine ⟨by kernel_rfl, ?_⟩; (conv => whnf))); refine callF r ⟨.refl _, trivial⟩ (by trivial) rfl ?_)
    conv => whnf
    (repeat (refine ⟨by kernel_rfl, ?_⟩; (conv => whnf)))
    refine ⟨(by (try simp only [true_and, and_true, Nat.sub_zero, Nat.zero_add, Int.toNat_natCast]) <;> omega), ?_⟩
    exact .refl _

/-- what New answers -/
def rat0 : AV := .agg [.f (.bool false), nat 0, nat 0]
theorem AVle.rat0 {sz sz' : Nat} {at_ at' : Nat → List FV} {c c' : Option Nat} : AVle (.agg [.f (.bool false), .f (.sl sz at_ 0 c), .f (.sl sz' at' 0 c')]) rat0 := .agg ⟨.refl _, .nil_nat, .nil_nat, trivial⟩
def newRes (z d : Int) : AV := if d = 0 then .tup [rat0, .f (.bool false)] else .tup [rat (Rat.divInt z d), .f (.bool true)]
theorem New_ok {x y : AV} {z d : Int} {s t : Nat} (hx : IsI x z s) (hy : IsI y d t) (hs : s ≤ 4398046510000) (ht : t ≤ 4398046510000) :
    ACall Tryz.prog 61 [x, y] (newRes z d) := by
  have s1 := iSign_ok hy (by omega)
  have n1 := iNeg_ok hx (by omega)
  have sz := hx.size
  have r1 := fun h m hh hm h0 => reduced_ok hx h m hh hs hm h0
  have r2 := fun h m hh hm h0 => reduced_ok (isI_int (-z) (by rw [isz_neg]; exact sz)) h m hh hs hm h0
  obtain ⟨nx, gx, lx, _, hgx, hlx⟩ := hx
  obtain ⟨nd, h, m, _, hh, hm⟩ := hy
  generalize ival nx (nval gx lx) = z at *
  have hd : ival nd (nval h m) = 0 ↔ nval h m = 0 := by cases nd <;> simp [ival]
  unfold newRes
  by_cases h0 : nval h m = 0
  · rw [if_pos (hd.2 h0)]
    rw [hd.2 h0] at s1
    refine acall_rule env [0, 1, 2, 3, 4, 5, 8, 11] Tryz.func61 rfl rfl rfl rfl ?_
    conv => whnf
    first | refine callF s1 ⟨.refl _, trivial⟩ (by trivial) rfl ?_ | ((repeat (refine ⟨by kernel_rfl, ?_⟩; (conv => whnf))); refine callF s1 ⟨.refl _, trivial⟩ (by trivial) rfl ?_)
    conv => whnf
    refine ⟨(by (try simp only [true_and, and_true, Nat.sub_zero, Nat.zero_add, Int.toNat_natCast]) <;> omega), ?_⟩
    exact .tup ⟨.rat0, .refl _, trivial⟩
  · rw [if_neg (fun h => h0 (hd.1 h))]
    have hb2 : ¬ sgn (ival nd (nval h m)) = 0 := fun h => h0 (hd.1 (sgn_iff.1 h))
    obtain ⟨B, hB⟩ : ∃ B : Int, sgn (ival nd (nval h m)) = B := ⟨_, rfl⟩
    rw [hB] at s1 hb2
    replace r1 := r1 h m hh (by omega) h0
    replace r2 := r2 h m hh (by omega) h0
    cases nd
    · rw [ival_f, Rat.divInt_ofNat]
      refine acall_rule env [0, 1, 2, 3, 4, 5, 8, 11] Tryz.func61 rfl rfl rfl rfl ?_
      conv => whnf
      first | refine callF s1 ⟨.refl _, trivial⟩ (by trivial) rfl ?_ | ((repeat (refine ⟨by kernel_rfl, ?_⟩; (conv => whnf))); refine callF s1 ⟨.refl _, trivial⟩ (by trivial) rfl ?_)
      conv => whnf
      refine splF (by simp only [decide_eq_true_eq, decide_eq_false_iff_not, Bool.not_eq_true', Bool.not_eq_false', gt_iff_lt, ge_iff_le] <;> omega) ?_
      conv => whnf
      first | refine callF r1 ⟨.refl _, .refl _, trivial⟩ (by trivial) rfl ?_ | ((repeat (refine ⟨by kernel_rfl, ?_⟩; (conv => whnf))); refine callF r1 ⟨.refl _, .refl _, trivial⟩ (by trivial) rfl ?_)
      conv => whnf
      (repeat (refine ⟨by kernel_rfl, ?_⟩; (conv => whnf)))
      refine ⟨(by (try simp only [true_and, and_true, Nat.sub_zero, Nat.zero_add, Int.toNat_natCast]) <;> omega), ?_⟩
      exact .refl _
    · rw [ival_t, Rat.divInt_neg', Rat.divInt_ofNat]
      refine acall_rule env [0, 1, 2, 3, 4, 5, 8, 11] Tryz.func61 rfl rfl rfl rfl ?_
      conv => whnf
      first | refine callF s1 ⟨.refl _, trivial⟩ (by trivial) rfl ?_ | ((repeat (refine ⟨by kernel_rfl, ?_⟩; (conv => whnf))); refine callF s1 ⟨.refl _, trivial⟩ (by trivial) rfl ?_)
      conv => whnf
      refine splF (by simp only [decide_eq_true_eq, decide_eq_false_iff_not, Bool.not_eq_true', Bool.not_eq_false', gt_iff_lt, ge_iff_le] <;> omega) ?_
      conv => whnf
      first | refine callF n1 ⟨.refl _, trivial⟩ (by trivial) rfl ?_ | ((repeat (refine ⟨by kernel_rfl, ?_⟩; (conv => whnf))); refine callF n1 ⟨.refl _, trivial⟩ (by trivial) rfl ?_)
      conv => whnf
      first | refine callF r2 ⟨.refl _, .refl _, trivial⟩ (by trivial) rfl ?_ | ((repeat (refine ⟨by kernel_rfl, ?_⟩; (conv => whnf))); refine callF r2 ⟨.refl _, .refl _, trivial⟩ (by trivial) rfl ?_)
      conv => whnf
      (repeat (refine ⟨by kernel_rfl, ?_⟩; (conv => whnf)))
      refine ⟨(by (try simp only [true_and, and_true, Nat.sub_zero, Nat.zero_add, Int.toNat_natCast]) <;> omega), ?_⟩
      exact .refl _
end Go.Abs

/- Rational numbers: arithmetic. -/
set_option autoImplicit false
set_option maxHeartbeats 4000000
set_option maxRecDepth 10000
set_option linter.unusedVariables false
set_option linter.unusedSimpArgs false
namespace Go.Abs
open Go Go.Proofs

theorem reduced_nat {x : AV} {z : Int} {s : Nat} (hx : IsI x z s) (D : Nat) (hs : s ≤ 4398046510000) (hD : size D ≤ 4398046510000) (h0 : D ≠ 0) :
    ACall Tryz.prog 86 [x, nat D] (rat (mkRat z D)) := by
  have := reduced_ok hx (digit D) (size D) (digit_Dig _ _) hs hD (by rw [nval_digit_size]; exact h0)
  rw [nval_digit_size] at this; exact this


theorem qCompare_ok {x y : AV} {a b : Rat} {s t : Nat} (ha : IsR x a s) (hb : IsR y b t) (hs : s + t ≤ 4398046500000) :
    ACall Tryz.prog 19 [x, y] (.f (.int .i64 (rcmp a b))) := by
  obtain ⟨p, P, hp, mp, pa, ip, dp, lp, zp, ep⟩ := parts_ok ha (by omega)
  obtain ⟨r, R, hr, mr, pb, ir, dr, lr, zr, er⟩ := parts_ok hb (by omega)
  have jp := isI_pos dp lp
  have jr := isI_pos dr lr
  have sP := ip.size
  have sR := ir.size
  have sQ := Nat.le_trans (size_nval dp) lp
  have sS := Nat.le_trans (size_nval dr) lr
  have m1 := iMul_ok ip jr (by omega)
  have m2 := iMul_ok ir jp (by omega)
  have k1 := iCompare_ok (isI_int (P * (nval hr mr : Nat)) (isz_mul sP (by rw [isz_nat]; exact sS))) (isI_int (R * (nval hp mp : Nat)) (isz_mul sR (by rw [isz_nat]; exact sQ))) (by omega) (by omega)
  rw [rcmp_cross P R _ _ zp zr] at k1
  rw [ep, er]
  clear ep er
  obtain ⟨na, ga, n, ga', n', _, hga, hga', hn, hn', h1⟩ := ha
  obtain ⟨nb, gb, m, gb', m', _, hgb, hgb', hm, hm', h2⟩ := hb
  obtain ⟨np, gp, kp, _, hgp, hkp⟩ := ip
  obtain ⟨nr, gr, kr, _, hgr, hkr⟩ := ir
  generalize ival np (nval gp kp) = P at *
  generalize ival nr (nval gr kr) = R at *
  refine acall_rule env [0, 1, 2, 3, 4, 5, 6, 7, 8] Tryz.func19 rfl rfl rfl rfl ?_
  conv => whnf
  first | refine callF pa ⟨.refl _, trivial⟩ (by trivial) rfl ?_ | ((repeat (refine ⟨by kernel_rfl, ?_⟩; (conv => whnf))); refine callF pa ⟨.refl _, trivial⟩ (by trivial) rfl ?_)
  conv => whnf
  first | refine callF pb ⟨.refl _, trivial⟩ (by trivial) rfl ?_ | ((repeat (refine ⟨by kernel_rfl, ?_⟩; (conv => whnf))); refine callF pb ⟨.refl _, trivial⟩ (by trivial) rfl ?_)
  conv => whnf
  first | refine callF m1 ⟨.refl _, .refl _, trivial⟩ (by trivial) rfl ?_ | ((repeat (refine ⟨by kernel_rfl, ?_⟩; (conv => whnf))); refine callF m1 ⟨.refl _, .refl _, trivial⟩ (by trivial) rfl ?_)
  conv => whnf
  first | refine callF m2 ⟨.refl _, .refl _, trivial⟩ (by trivial) rfl ?_ | ((repeat (refine ⟨by kernel_rfl, ?_⟩; (conv => whnf))); refine callF m2 ⟨.refl _, .refl _, trivial⟩ (by trivial) rfl ?_)
  conv => whnf
  first | refine callF k1 ⟨.refl _, .refl _, trivial⟩ (by trivial) rfl ?_ | ((repeat (refine ⟨by kernel_rfl, ?_⟩; (conv => whnf))); refine callF k1 ⟨.refl _, .refl _, trivial⟩ (by trivial) rfl ?_)
  conv => whnf
  (repeat (refine ⟨by kernel_rfl, ?_⟩; (conv => whnf)))
  refine ⟨(by (try simp only [true_and, and_true, Nat.sub_zero, Nat.zero_add, Int.toNat_natCast]) <;> omega), ?_⟩
  exact .refl _

theorem qNeg_ok {x : AV} {a : Rat} {s : Nat} (ha : IsR x a s) (hs : s ≤ 4398046500000) : ACall Tryz.prog 22 [x] (rat (-a)) := by
  have n1 := qNorm_ok ha (by omega)
  have sa := ha.size
  have n2 := iNeg_ok (isI_int a.num (rsz_num sa)) (by omega)
  obtain ⟨na, ga, n, ga', n', _, hga, hga', hn, hn', h1⟩ := ha
  generalize mkRat (ival na (nval ga n)) (nval ga' n') = a at *
  refine acall_rule env [0, 1, 2, 3] Tryz.func22 rfl rfl rfl rfl ?_
  conv => whnf
  first | refine callF n1 ⟨.refl _, trivial⟩ (by trivial) rfl ?_ | ((repeat (refine ⟨by kernel_rfl, ?_⟩; (conv => whnf))); refine callF n1 ⟨.refl _, trivial⟩ (by trivial) rfl ?_)
  conv => whnf
  first | refine callF n2 ⟨.refl _, trivial⟩ (by trivial) rfl ?_ | ((repeat (refine ⟨by kernel_rfl, ?_⟩; (conv => whnf))); refine callF n2 ⟨.refl _, trivial⟩ (by trivial) rfl ?_)
  conv => whnf
  (repeat (refine ⟨by kernel_rfl, ?_⟩; (conv => whnf)))
  refine ⟨(by (try simp only [true_and, and_true, Nat.sub_zero, Nat.zero_add, Int.toNat_natCast]) <;> omega), ?_⟩
  exact .refl _

theorem qAdd_ok {x y : AV} {a b : Rat} {s t : Nat} (ha : IsR x a s) (hb : IsR y b t) (hs : s + t ≤ 4398046500000) :
    ACall Tryz.prog 62 [x, y] (rat (a + b)) := by
  obtain ⟨p, P, hp, mp, pa, ip, dp, lp, zp, ep⟩ := parts_ok ha (by omega)
  obtain ⟨r, R, hr, mr, pb, ir, dr, lr, zr, er⟩ := parts_ok hb (by omega)
  have jp := isI_pos dp lp
  have jr := isI_pos dr lr
  have sP := ip.size
  have sR := ir.size
  have sQ := Nat.le_trans (size_nval dp) lp
  have sS := Nat.le_trans (size_nval dr) lr
  have c1 := Compare_ok hp hr mp mr dp dr (by omega) (by omega)
  have a1 := iAdd_ok ip ir (by omega) (by omega)
  have m1 := iMul_ok ip jr (by omega)
  have m2 := iMul_ok ir jp (by omega)
  have zm1 := isz_mul sP (show isz (nval hr mr : Nat) ≤ t by rw [isz_nat]; exact sS)
  have zm2 := isz_mul sR (show isz (nval hp mp : Nat) ≤ s by rw [isz_nat]; exact sQ)
  have a2 := iAdd_ok (isI_int _ zm1) (isI_int _ zm2) (by omega) (by omega)
  have za1 := isz_add sP sR
  have za2 := isz_add zm1 zm2
  have m3 := Mul_ok hp hr mp mr dp dr (by omega)
  have zm3 := size_mul2 sQ sS
  have r1 := reduced_ok (isI_int _ za1) hp mp dp (by omega) (by omega) zp
  have r2 := reduced_nat (isI_int _ za2) _ (by omega) (Nat.le_trans zm3 (by omega)) (Nat.mul_ne_zero zp zr)
  have e := Rat.mkRat_add_mkRat P R zp zr
  rw [ep, er]
  clear ep er
  obtain ⟨na, ga, n, ga', n', _, hga, hga', hn, hn', h1⟩ := ha
  obtain ⟨nb, gb, m, gb', m', _, hgb, hgb', hm, hm', h2⟩ := hb
  obtain ⟨np, gp, kp, _, hgp, hkp⟩ := ip
  obtain ⟨nr, gr, kr, _, hgr, hkr⟩ := ir
  generalize ival np (nval gp kp) = P at *
  generalize ival nr (nval gr kr) = R at *
  rw [e]
  by_cases h : nval hp mp = nval hr mr
  · have e2 : mkRat (P * (nval hr mr : Nat) + R * (nval hp mp : Nat)) (nval hp mp * nval hr mr) = mkRat (P + R) (nval hp mp) := by
      rw [h, ← Int.add_mul, Rat.mkRat_mul_right (by rw [← h]; exact zp)]
    rw [e2]
    rw [show cmp (nval hp mp) (nval hr mr) = 0 by rw [h]; simp [cmp]] at c1
    refine acall_rule env [0, 1, 2, 3, 4, 5, 6, 7, 8, 24] Tryz.func62 rfl rfl rfl rfl ?_
    conv => whnf
    first | refine callF pa ⟨.refl _, trivial⟩ (by trivial) rfl ?_ | ((repeat (refine ⟨by kernel_rfl, ?_⟩; (conv => whnf))); refine callF pa ⟨.refl _, trivial⟩ (by trivial) rfl ?_)
    conv => whnf
    first | refine callF pb ⟨.refl _, trivial⟩ (by trivial) rfl ?_ | ((repeat (refine ⟨by kernel_rfl, ?_⟩; (conv => whnf))); refine callF pb ⟨.refl _, trivial⟩ (by trivial) rfl ?_)
    conv => whnf
    first | refine callF c1 ⟨.refl _, .refl _, trivial⟩ (by trivial) rfl ?_ | ((repeat (refine ⟨by kernel_rfl, ?_⟩; (conv => whnf))); refine callF c1 ⟨.refl _, .refl _, trivial⟩ (by trivial) rfl ?_)
    conv => whnf
    first | refine callF a1 ⟨.refl _, .refl _, trivial⟩ (by trivial) rfl ?_ | ((repeat (refine ⟨by kernel_rfl, ?_⟩; (conv => whnf))); refine callF a1 ⟨.refl _, .refl _, trivial⟩ (by trivial) rfl ?_)
    conv => whnf
    first | refine callF r1 ⟨.refl _, .refl _, trivial⟩ (by trivial) rfl ?_ | ((repeat (refine ⟨by kernel_rfl, ?_⟩; (conv => whnf))); refine callF r1 ⟨.refl _, .refl _, trivial⟩ (by trivial) rfl ?_)
    conv => whnf
    (repeat (refine ⟨by kernel_rfl, ?_⟩; (conv => whnf)))
    refine ⟨(by (try simp only [true_and, and_true, Nat.sub_zero, Nat.zero_add, Int.toNat_natCast]) <;> omega), ?_⟩
    exact .refl _
  · have hc : ¬ cmp (nval hp mp) (nval hr mr) = 0 := by
      unfold cmp; repeat' split
      all_goals omega
    obtain ⟨C, hC⟩ : ∃ C : Int, cmp (nval hp mp) (nval hr mr) = C := ⟨_, rfl⟩
    rw [hC] at c1 hc
    refine acall_rule env [0, 1, 2, 3, 4, 5, 6, 7, 8, 24] Tryz.func62 rfl rfl rfl rfl ?_
    conv => whnf
    first | refine callF pa ⟨.refl _, trivial⟩ (by trivial) rfl ?_ | ((repeat (refine ⟨by kernel_rfl, ?_⟩; (conv => whnf))); refine callF pa ⟨.refl _, trivial⟩ (by trivial) rfl ?_)
    conv => whnf
    first | refine callF pb ⟨.refl _, trivial⟩ (by trivial) rfl ?_ | ((repeat (refine ⟨by kernel_rfl, ?_⟩; (conv => whnf))); refine callF pb ⟨.refl _, trivial⟩ (by trivial) rfl ?_)
    conv => whnf
    first | refine callF c1 ⟨.refl _, .refl _, trivial⟩ (by trivial) rfl ?_ | ((repeat (refine ⟨by kernel_rfl, ?_⟩; (conv => whnf))); refine callF c1 ⟨.refl _, .refl _, trivial⟩ (by trivial) rfl ?_)
    conv => whnf
    refine splF (by simp only [decide_eq_true_eq, decide_eq_false_iff_not, Bool.not_eq_true', Bool.not_eq_false', gt_iff_lt, ge_iff_le] <;> omega) ?_
    conv => whnf
    first | refine callF m1 ⟨.refl _, .refl _, trivial⟩ (by trivial) rfl ?_ | ((repeat (refine ⟨by kernel_rfl, ?_⟩; (conv => whnf))); refine callF m1 ⟨.refl _, .refl _, trivial⟩ (by trivial) rfl ?_)
    conv => whnf
    first | refine callF m2 ⟨.refl _, .refl _, trivial⟩ (by trivial) rfl ?_ | ((repeat (refine ⟨by kernel_rfl, ?_⟩; (conv => whnf))); refine callF m2 ⟨.refl _, .refl _, trivial⟩ (by trivial) rfl ?_)
    conv => whnf
    first | refine callF a2 ⟨.refl _, .refl _, trivial⟩ (by trivial) rfl ?_ | ((repeat (refine ⟨by kernel_rfl, ?_⟩; (conv => whnf))); refine callF a2 ⟨.refl _, .refl _, trivial⟩ (by trivial) rfl ?_)
    conv => whnf
    first | refine callF m3 ⟨.refl _, .refl _, trivial⟩ (by trivial) rfl ?_ | ((repeat (refine ⟨by kernel_rfl, ?_⟩; (conv => whnf))); refine callF m3 ⟨.refl _, .refl _, trivial⟩ (by trivial) rfl ?_)
    conv => whnf
    first | refine callF r2 ⟨.refl _, .refl _, trivial⟩ (by trivial) rfl ?_ | ((repeat (refine ⟨by kernel_rfl, ?_⟩; (conv => whnf))); refine callF r2 ⟨.refl _, .refl _, trivial⟩ (by trivial) rfl ?_)
    conv => whnf
    (repeat (refine ⟨by kernel_rfl, ?_⟩; (conv => whnf)))
    refine ⟨(by (try simp only [true_and, and_true, Nat.sub_zero, Nat.zero_add, Int.toNat_natCast]) <;> omega), ?_⟩
    exact .refl _

theorem qSub_ok {x y : AV} {a b : Rat} {s t : Nat} (ha : IsR x a s) (hb : IsR y b t) (hs : s + t ≤ 4398046500000) :
    ACall Tryz.prog 28 [x, y] (rat (a - b)) := by
  obtain ⟨nb, gb, m, gb', m', _, hgb, hgb', hm, hm', h2⟩ := hb
  have a1 := qAdd_ok ha (IsR.mk (!nb) gb m gb' m' t hgb hgb' hm hm' h2) hs
  rw [show ival (!nb) (nval gb m) = -ival nb (nval gb m) by cases nb <;> simp [ival], ← Rat.neg_mkRat, ← Rat.sub_eq_add_neg] at a1
  generalize mkRat (ival nb (nval gb m)) (nval gb' m') = b at *
  obtain ⟨na, ga, n, ga', n', _, hga, hga', hn, hn', h1⟩ := ha
  generalize mkRat (ival na (nval ga n)) (nval ga' n') = a at *
  refine acall_rule env [0, 1, 2, 3, 4] Tryz.func28 rfl rfl rfl rfl ?_
  conv => whnf
  first | refine callF a1 ⟨.refl _, .refl _, trivial⟩ (by trivial) rfl ?_ | ((repeat (refine ⟨by kernel_rfl, ?_⟩; (conv => whnf))); refine callF a1 ⟨.refl _, .refl _, trivial⟩ (by trivial) rfl ?_)
  conv => whnf
  (repeat (refine ⟨by kernel_rfl, ?_⟩; (conv => whnf)))
  refine ⟨(by (try simp only [true_and, and_true, Nat.sub_zero, Nat.zero_add, Int.toNat_natCast]) <;> omega), ?_⟩
  exact .refl _

def invRes (a : Rat) : AV := if a = 0 then .tup [rat0, .f (.bool false)] else .tup [rat a⁻¹, .f (.bool true)]
def qdivRes (a b : Rat) : AV := if b = 0 then .tup [rat0, .f (.bool false)] else .tup [rat (a / b), .f (.bool true)]

theorem qInv_ok {x : AV} {a : Rat} {s : Nat} (ha : IsR x a s) (hs : s ≤ 4398046500000) : ACall Tryz.prog 27 [x] (invRes a) := by
  obtain ⟨p, P, hp, mp, pa, ip, dp, lp, zp, ep⟩ := parts_ok ha (by omega)
  have n1 := New_ok (isI_pos dp lp) ip (by omega) (by omega)
  have e : newRes (nval hp mp : Nat) P = invRes a := by
    unfold newRes invRes
    rw [ep]
    simp only [Rat.mkRat_eq_zero zp]
    rw [← Rat.divInt_ofNat, Rat.inv_divInt]
  rw [e] at n1
  have hA : invRes a = .tup [rat0, .f (.bool false)] ∨ invRes a = .tup [rat a⁻¹, .f (.bool true)] := by
    unfold invRes; split
    · exact .inl rfl
    · exact .inr rfl
  clear e ep
  obtain ⟨na, ga, n, ga', n', _, hga, hga', hn, hn', h1⟩ := ha
  obtain ⟨np, gp, kp, _, hgp, hkp⟩ := ip
  generalize mkRat (ival na (nval ga n)) (nval ga' n') = a at *
  rcases hA with hA | hA <;> rw [hA] at n1 ⊢
  · refine acall_rule env [0, 1, 2, 3, 4, 5] Tryz.func27 rfl rfl rfl rfl ?_
    conv => whnf
    first | refine callF pa ⟨.refl _, trivial⟩ (by trivial) rfl ?_ | ((repeat (refine ⟨by kernel_rfl, ?_⟩; (conv => whnf))); refine callF pa ⟨.refl _, trivial⟩ (by trivial) rfl ?_)
    conv => whnf
    first | refine callF n1 ⟨.refl _, .refl _, trivial⟩ (by trivial) rfl ?_ | ((repeat (refine ⟨by kernel_rfl, ?_⟩; (conv => whnf))); refine callF n1 ⟨.refl _, .refl _, trivial⟩ (by trivial) rfl ?_)
    conv => whnf
    (repeat (refine ⟨by kernel_rfl, ?_⟩; (conv => whnf)))
    refine ⟨(by (try simp only [true_and, and_true, Nat.sub_zero, Nat.zero_add, Int.toNat_natCast]) <;> omega), ?_⟩
    exact .refl _
  · refine acall_rule env [0, 1, 2, 3, 4, 5] Tryz.func27 rfl rfl rfl rfl ?_
    conv => whnf
    first | refine callF pa ⟨.refl _, trivial⟩ (by trivial) rfl ?_ | ((repeat (refine ⟨by kernel_rfl, ?_⟩; (conv => whnf))); refine callF pa ⟨.refl _, trivial⟩ (by trivial) rfl ?_)
    conv => whnf
    first | refine callF n1 ⟨.refl _, .refl _, trivial⟩ (by trivial) rfl ?_ | ((repeat (refine ⟨by kernel_rfl, ?_⟩; (conv => whnf))); refine callF n1 ⟨.refl _, .refl _, trivial⟩ (by trivial) rfl ?_)
    conv => whnf
    (repeat (refine ⟨by kernel_rfl, ?_⟩; (conv => whnf)))
    refine ⟨(by (try simp only [true_and, and_true, Nat.sub_zero, Nat.zero_add, Int.toNat_natCast]) <;> omega), ?_⟩
    exact .refl _

end Go.Abs

/- Rational numbers: Min, Max, roundings, Size. -/
set_option autoImplicit false
set_option maxHeartbeats 4000000
set_option maxRecDepth 10000
set_option linter.unusedVariables false
set_option linter.unusedSimpArgs false
namespace Go.Abs
open Go Go.Proofs

def rmin (a b : Rat) : Rat := if rcmp a b ≤ 0 then a else b
def rmax (a b : Rat) : Rat := if 0 ≤ rcmp a b then a else b



theorem qFloor_ok {x : AV} {a : Rat} {s : Nat} (ha : IsR x a s) (hs : s ≤ 4398046500000) : ACall Tryz.prog 26 [x] (int a.floor) := by
  obtain ⟨p, P, hp, mp, pa, ip, dp, lp, zp, ep⟩ := parts_ok ha (by omega)
  have d1 := iDivMod_ok ip (isI_pos dp lp) (by omega) (by omega)
  unfold idivRes at d1
  rw [if_neg (by omega), ← mk_floor P zp, ← ep] at d1
  clear ep
  obtain ⟨na, ga, n, ga', n', _, hga, hga', hn, hn', h1⟩ := ha
  generalize mkRat (ival na (nval ga n)) (nval ga' n') = a at *
  obtain ⟨np, gp, kp, _, hgp, hkp⟩ := ip
  refine acall_rule env [0, 1, 2, 3, 4, 5] Tryz.func26 rfl rfl rfl rfl ?_
  conv => whnf
  first | refine callF pa ⟨.refl _, trivial⟩ (by trivial) rfl ?_ | ((repeat (refine ⟨by kernel_rfl, ?_⟩; (conv => whnf))); refine callF pa ⟨.refl _, trivial⟩ (by trivial) rfl ?_)
  conv => whnf
  first | refine callF d1 ⟨.refl _, .refl _, trivial⟩ (by trivial) rfl ?_ | ((repeat (refine ⟨by kernel_rfl, ?_⟩; (conv => whnf))); refine callF d1 ⟨.refl _, .refl _, trivial⟩ (by trivial) rfl ?_)
  conv => whnf
  (repeat (refine ⟨by kernel_rfl, ?_⟩; (conv => whnf)))
  refine ⟨(by (try simp only [true_and, and_true, Nat.sub_zero, Nat.zero_add, Int.toNat_natCast]) <;> omega), ?_⟩
  exact .refl _
theorem qCeil_ok {x : AV} {a : Rat} {s : Nat} (ha : IsR x a s) (hs : s ≤ 4398046500000) : ACall Tryz.prog 23 [x] (int a.ceil) := by
  have n1 := qNeg_ok ha hs
  have sa := ha.size
  have f1 := qFloor_ok (isR_rat (-a) (s := s) (by rw [rsz_neg]; exact sa)) hs
  have n2 := iNeg_ok (isI_int (-a).floor (rsz_floor (-a) (s := s) (by rw [rsz_neg]; exact sa))) (by omega)
  rw [← Rat.ceil_eq_neg_floor_neg] at n2
  obtain ⟨na, ga, n, ga', n', _, hga, hga', hn, hn', h1⟩ := ha
  generalize mkRat (ival na (nval ga n)) (nval ga' n') = a at *
  generalize a.ceil = c at *
  refine acall_rule env [0, 1, 2] Tryz.func23 rfl rfl rfl rfl ?_
  conv => whnf
  first | refine callF n1 ⟨.refl _, trivial⟩ (by trivial) rfl ?_ | ((repeat (refine ⟨by kernel_rfl, ?_⟩; (conv => whnf))); refine callF n1 ⟨.refl _, trivial⟩ (by trivial) rfl ?_)
  conv => whnf
  first | refine callF f1 ⟨.refl _, trivial⟩ (by trivial) rfl ?_ | ((repeat (refine ⟨by kernel_rfl, ?_⟩; (conv => whnf))); refine callF f1 ⟨.refl _, trivial⟩ (by trivial) rfl ?_)
  conv => whnf
  first | refine callF n2 ⟨.refl _, trivial⟩ (by trivial) rfl ?_ | ((repeat (refine ⟨by kernel_rfl, ?_⟩; (conv => whnf))); refine callF n2 ⟨.refl _, trivial⟩ (by trivial) rfl ?_)
  conv => whnf
  (repeat (refine ⟨by kernel_rfl, ?_⟩; (conv => whnf)))
  refine ⟨(by (try simp only [true_and, and_true, Nat.sub_zero, Nat.zero_add, Int.toNat_natCast]) <;> omega), ?_⟩
  exact .refl _

theorem odd_abs (z : Int) : (digit z.natAbs 0 % 2 = 1) ↔ z % 2 = 1 := by
  unfold digit
  rw [pw_zero, Nat.div_one]
  omega
theorem bitlen_size_le (N : Nat) : bitlen N ≤ 32 * size N := by
  refine bitlen_le ?_
  rw [← pw_two]
  exact lt_pw_size N
end Go.Abs

/- The reference's rational numbers: Make, Norm. -/
set_option autoImplicit false
set_option maxHeartbeats 4000000
set_option maxRecDepth 10000
set_option linter.unusedVariables false
set_option linter.unusedSimpArgs false
namespace Go.Abs
open Go Go.Proofs

theorem AVle.nat_one {at_ : Nat → List FV} {c : Option Nat} (h : at_ 0 = [.int .u32 1]) : AVle (.f (.sl 1 at_ 1 c)) (nat 1) := by
  have : nat 1 = .f (.sl 1 (fun j => [.int .u32 (digit 1 j : Nat)]) 1 none) := by unfold nat; rw [size_one]
  rw [this]
  refine .f (.sl (fun i hi => ?_) (.inl rfl))
  obtain rfl : i = 0 := by omega
  rw [h, show digit 1 0 = 1 by decide]
  exact ⟨.refl _, trivial⟩
theorem sZero_ok : ACall Tryz.prog 48 [] (rat 0) := by
  refine acall_rule env [0] Tryz.func48 rfl rfl rfl rfl ?_
  conv => whnf
  refine ⟨?_, ?_⟩
  · decide
  · exact .agg ⟨.refl _, .nil_nat, .nat_one rfl, trivial⟩

theorem int_minus (n : Nat) (h : n ≠ 0) : int (-(n : Int)) = .agg [.f (.bool true), nat n] := by
  unfold int
  rw [decide_eq_true (by omega), Int.natAbs_neg, Int.natAbs_natCast]

theorem sMake_ok {x y : AV} {z d : Int} {s t : Nat} (hx : IsI x z s) (hy : IsI y d t) (hs : s ≤ 4398046500000) (ht : t ≤ 4398046500000) :
    ACall Tryz.prog 17 [x, y] (rat (Rat.divInt z d)) := by
  have s1 := rSign_ok hy (by omega)
  have n1 := rNorm_ok hy (by omega)
  have n2 := rNorm_ok hx (by omega)
  have g1 := rGCD_ok hx hy (by omega) (by omega)
  have q1 := refEqual_nn d.natAbs 1 (Nat.le_trans hy.size (by omega))
  have sx := hx.size
  have sy := hy.size
  have sG : d ≠ 0 → size (Nat.gcd z.natAbs d.natAbs) ≤ t := fun h => size_le_of (Nat.gcd_le_right _ (by omega)) sy
  have d1 := fun h => rDivMod_ok hx (isI_int (Nat.gcd z.natAbs d.natAbs : Nat) (by rw [isz_nat]; exact sG h)) (by omega) (by omega)
  have d2 := fun h => rDivMod_ok hy (isI_int (Nat.gcd z.natAbs d.natAbs : Nat) (by rw [isz_nat]; exact sG h)) (by omega) (by omega)
  obtain ⟨nx, gx, lx, _, hgx, hlx⟩ := hx
  obtain ⟨ny, gy, ly, _, hgy, hly⟩ := hy
  generalize ival nx (nval gx lx) = z at *
  generalize ival ny (nval gy ly) = d at *
  have z0 := sZero_ok
  by_cases h0 : d = 0
  · subst h0
    rw [Rat.divInt_zero]
    refine acall_rule env [0, 1, 2, 3, 4, 5, 6, 7, 10, 15, 27, 51] Tryz.func17 rfl rfl rfl rfl ?_
    conv => whnf
    first | refine callF s1 ⟨.refl _, trivial⟩ (by trivial) rfl ?_ | ((repeat (refine ⟨by kernel_rfl, ?_⟩; (conv => whnf))); refine callF s1 ⟨.refl _, trivial⟩ (by trivial) rfl ?_)
    conv => whnf
    first | refine callF z0 trivial (by trivial) rfl ?_ | ((repeat (refine ⟨by kernel_rfl, ?_⟩; (conv => whnf))); refine callF z0 trivial (by trivial) rfl ?_)
    conv => whnf
    (repeat (refine ⟨by kernel_rfl, ?_⟩; (conv => whnf)))
    refine ⟨(by (try simp only [true_and, and_true, Nat.sub_zero, Nat.zero_add, Int.toNat_natCast]) <;> omega), ?_⟩
    exact .refl _
  have hs0 : ¬ sgn d = 0 := fun h => h0 (sgn_iff.1 h)
  obtain ⟨S, hS⟩ : ∃ S, sgn d = S := ⟨_, rfl⟩
  rw [hS] at s1 hs0
  clear hS
  replace d1 := d1 h0
  replace d2 := d2 h0
  unfold idivRes at d1 d2
  have hG0 : ((Nat.gcd z.natAbs d.natAbs : Nat) : Int) ≠ 0 := by
    have : 0 < Nat.gcd z.natAbs d.natAbs := Nat.gcd_pos_of_pos_right _ (by omega)
    omega
  rw [if_neg hG0] at d1 d2
  by_cases hd : d < 0
  · obtain ⟨D, rfl⟩ : ∃ D : Nat, d = -(D : Int) := ⟨d.natAbs, by omega⟩
    have hD : D ≠ 0 := by omega
    rw [Int.natAbs_neg, Int.natAbs_natCast] at *
    rw [Rat.divInt_neg', Rat.divInt_ofNat]
    rw [int_minus D hD] at n1
    have e1 : -(z / ((Nat.gcd z.natAbs D : Nat) : Int)) = (mkRat (-z) D).num := by
      rw [Rat.num_mkRat, if_neg hD, Int.natAbs_neg, Nat.gcd_comm D, Int.neg_ediv_of_dvd (Rat.normalize.dvd_num rfl)]
    have e2 : -(D : Int) / ((Nat.gcd z.natAbs D : Nat) : Int) = -(((mkRat (-z) D).den : Nat) : Int) := by
      rw [Rat.den_mkRat, if_neg hD, Int.natAbs_neg, Nat.gcd_comm D, Int.natCast_ediv, Int.neg_ediv_of_dvd]
      exact Int.natCast_dvd_natCast.2 (Nat.gcd_dvd_right _ _)
    have hden := (mkRat (-z) D).den_nz
    have sq := rsz_mk (-z) D (s := max s t + 1) (by rw [isz_neg]; omega) (by have := sy; rw [isz_neg, isz_nat] at this; omega) (by omega)
    rw [e2, int_minus _ hden] at d2
    have e3 : z / ((Nat.gcd z.natAbs D : Nat) : Int) = -(mkRat (-z) D).num := by rw [← e1]; omega
    rw [e3] at d1
    generalize mkRat (-z) D = q at *
    have r1 := rNeg_ok (isI_int (-q.num) (s := max s t + 1) (by rw [isz_neg]; exact rsz_num sq)) (by omega)
    have r2 := rNeg_ok (isI_int (-(q.den : Int)) (s := max s t + 1) (by rw [isz_neg, isz_nat]; exact rsz_den sq)) (by omega)
    rw [Int.neg_neg] at r1 r2
    rw [int_minus _ hden, int_nonneg] at r2
    refine acall_rule env [0, 1, 2, 3, 4, 5, 6, 7, 10, 15, 27, 51] Tryz.func17 rfl rfl rfl rfl ?_
    conv => whnf
    first | refine callF s1 ⟨.refl _, trivial⟩ (by trivial) rfl ?_ | ((repeat (refine ⟨by kernel_rfl, ?_⟩; (conv => whnf))); refine callF s1 ⟨.refl _, trivial⟩ (by trivial) rfl ?_)
    conv => whnf
    refine splF (by simp only [decide_eq_true_eq, decide_eq_false_iff_not, Bool.not_eq_true', Bool.not_eq_false', gt_iff_lt, ge_iff_le] <;> omega) ?_
    conv => whnf
    first | refine callF n1 ⟨.refl _, trivial⟩ (by trivial) rfl ?_ | ((repeat (refine ⟨by kernel_rfl, ?_⟩; (conv => whnf))); refine callF n1 ⟨.refl _, trivial⟩ (by trivial) rfl ?_)
    conv => whnf
    first | refine callF g1 ⟨.refl _, .refl _, trivial⟩ (by trivial) rfl ?_ | ((repeat (refine ⟨by kernel_rfl, ?_⟩; (conv => whnf))); refine callF g1 ⟨.refl _, .refl _, trivial⟩ (by trivial) rfl ?_)
    conv => whnf
    first | refine callF d1 ⟨.refl _, .refl _, trivial⟩ (by trivial) rfl ?_ | ((repeat (refine ⟨by kernel_rfl, ?_⟩; (conv => whnf))); refine callF d1 ⟨.refl _, .refl _, trivial⟩ (by trivial) rfl ?_)
    conv => whnf
    first | refine callF d2 ⟨.refl _, .refl _, trivial⟩ (by trivial) rfl ?_ | ((repeat (refine ⟨by kernel_rfl, ?_⟩; (conv => whnf))); refine callF d2 ⟨.refl _, .refl _, trivial⟩ (by trivial) rfl ?_)
    conv => whnf
    first | refine callF r1 ⟨.refl _, trivial⟩ (by trivial) rfl ?_ | ((repeat (refine ⟨by kernel_rfl, ?_⟩; (conv => whnf))); refine callF r1 ⟨.refl _, trivial⟩ (by trivial) rfl ?_)
    conv => whnf
    first | refine callF r2 ⟨.refl _, trivial⟩ (by trivial) rfl ?_ | ((repeat (refine ⟨by kernel_rfl, ?_⟩; (conv => whnf))); refine callF r2 ⟨.refl _, trivial⟩ (by trivial) rfl ?_)
    conv => whnf
    (repeat (refine ⟨by kernel_rfl, ?_⟩; (conv => whnf)))
    refine ⟨(by (try simp only [true_and, and_true, Nat.sub_zero, Nat.zero_add, Int.toNat_natCast]) <;> omega), ?_⟩
    exact .refl _
  · obtain ⟨D, rfl⟩ : ∃ D : Nat, d = (D : Int) := ⟨d.natAbs, by omega⟩
    have hD : D ≠ 0 := by omega
    rw [Int.natAbs_natCast] at *
    rw [Rat.divInt_ofNat]
    rw [int_nonneg] at n1
    by_cases h1 : D = 1
    · subst h1
      rw [decide_eq_true rfl] at q1
      have e : rat (mkRat z 1) = .agg [.f (.bool (decide (z < 0))), nat z.natAbs, nat 1] := by
        rw [mk_rat z hD, Nat.gcd_one_right, Nat.div_one, Nat.div_one]
      rw [e]
      refine acall_rule env [0, 1, 2, 3, 4, 5, 6, 7, 10, 15, 27, 51] Tryz.func17 rfl rfl rfl rfl ?_
      conv => whnf
      first | refine callF s1 ⟨.refl _, trivial⟩ (by trivial) rfl ?_ | ((repeat (refine ⟨by kernel_rfl, ?_⟩; (conv => whnf))); refine callF s1 ⟨.refl _, trivial⟩ (by trivial) rfl ?_)
      conv => whnf
      refine splF (by simp only [decide_eq_true_eq, decide_eq_false_iff_not, Bool.not_eq_true', Bool.not_eq_false', gt_iff_lt, ge_iff_le] <;> omega) ?_
      conv => whnf
      first | refine callF n1 ⟨.refl _, trivial⟩ (by trivial) rfl ?_ | ((repeat (refine ⟨by kernel_rfl, ?_⟩; (conv => whnf))); refine callF n1 ⟨.refl _, trivial⟩ (by trivial) rfl ?_)
      conv => whnf
      refine callF q1 ⟨.refl _, .nat_one rfl, trivial⟩ ?_ rfl ?_
      conv => whnf
      · decide
      first | refine callF n2 ⟨.refl _, trivial⟩ (by trivial) rfl ?_ | ((repeat (refine ⟨by kernel_rfl, ?_⟩; (conv => whnf))); refine callF n2 ⟨.refl _, trivial⟩ (by trivial) rfl ?_)
      conv => whnf
      (repeat (refine ⟨by kernel_rfl, ?_⟩; (conv => whnf)))
      refine ⟨(by (try simp only [true_and, and_true, Nat.sub_zero, Nat.zero_add, Int.toNat_natCast]) <;> omega), ?_⟩
      exact .refl _
    have e1 : z / ((Nat.gcd z.natAbs D : Nat) : Int) = (mkRat z D).num := by
      rw [Rat.num_mkRat, if_neg hD, Nat.gcd_comm]
    have e2 : (D : Int) / ((Nat.gcd z.natAbs D : Nat) : Int) = (((mkRat z D).den : Nat) : Int) := by
      rw [Rat.den_mkRat, if_neg hD, Nat.gcd_comm, Int.natCast_ediv]
    rw [e2, int_nonneg] at d2
    rw [e1] at d1
    generalize mkRat z D = q at *
    rw [decide_eq_false h1] at q1
    refine acall_rule env [0, 1, 2, 3, 4, 5, 6, 7, 10, 15, 27, 51] Tryz.func17 rfl rfl rfl rfl ?_
    conv => whnf
    first | refine callF s1 ⟨.refl _, trivial⟩ (by trivial) rfl ?_ | ((repeat (refine ⟨by kernel_rfl, ?_⟩; (conv => whnf))); refine callF s1 ⟨.refl _, trivial⟩ (by trivial) rfl ?_)
    conv => whnf
    refine splF (by simp only [decide_eq_true_eq, decide_eq_false_iff_not, Bool.not_eq_true', Bool.not_eq_false', gt_iff_lt, ge_iff_le] <;> omega) ?_
    conv => whnf
    first | refine callF n1 ⟨.refl _, trivial⟩ (by trivial) rfl ?_ | ((repeat (refine ⟨by kernel_rfl, ?_⟩; (conv => whnf))); refine callF n1 ⟨.refl _, trivial⟩ (by trivial) rfl ?_)
    conv => whnf
    refine callF q1 ⟨.refl _, .nat_one rfl, trivial⟩ ?_ rfl ?_
    conv => whnf
    · decide
    first | refine callF g1 ⟨.refl _, .refl _, trivial⟩ (by trivial) rfl ?_ | ((repeat (refine ⟨by kernel_rfl, ?_⟩; (conv => whnf))); refine callF g1 ⟨.refl _, .refl _, trivial⟩ (by trivial) rfl ?_)
    conv => whnf
    first | refine callF d1 ⟨.refl _, .refl _, trivial⟩ (by trivial) rfl ?_ | ((repeat (refine ⟨by kernel_rfl, ?_⟩; (conv => whnf))); refine callF d1 ⟨.refl _, .refl _, trivial⟩ (by trivial) rfl ?_)
    conv => whnf
    first | refine callF d2 ⟨.refl _, .refl _, trivial⟩ (by trivial) rfl ?_ | ((repeat (refine ⟨by kernel_rfl, ?_⟩; (conv => whnf))); refine callF d2 ⟨.refl _, .refl _, trivial⟩ (by trivial) rfl ?_)
    conv => whnf
    (repeat (refine ⟨by kernel_rfl, ?_⟩; (conv => whnf)))
    refine ⟨(by (try simp only [true_and, and_true, Nat.sub_zero, Nat.zero_add, Int.toNat_natCast]) <;> omega), ?_⟩
    exact .refl _
end Go.Abs

/- The reference's rational numbers. -/
set_option autoImplicit false
set_option maxHeartbeats 4000000
set_option maxRecDepth 10000
set_option linter.unusedVariables false
set_option linter.unusedSimpArgs false
namespace Go.Abs
open Go Go.Proofs


theorem divInt_one (v : Int) : Rat.divInt v 1 = (v : Rat) := by
  show Rat.divInt v ((1 : Nat) : Int) = _
  rw [Rat.divInt_ofNat]; exact Rat.mkRat_self (v : Rat)
theorem sNorm_ok {x : AV} {a : Rat} {s : Nat} (ha : IsR x a s) (hs : s ≤ 4398046500000) : ACall Tryz.prog 69 [x] (rat a) := by
  obtain ⟨na, ga, n, ga', n', _, hga, hga', hn, hn', h1⟩ := ha
  have m := sMake_ok (.mk na ga n s hga hn) (isI_pos hga' hn') hs hs
  rw [Rat.divInt_ofNat] at m
  generalize mkRat (ival na (nval ga n)) (nval ga' n') = a at *
  refine acall_rule env [0, 1, 2] Tryz.func69 rfl rfl rfl rfl ?_
  conv => whnf
  first | refine callF m ⟨.refl _, .refl _, trivial⟩ (by trivial) rfl ?_ | ((repeat (refine ⟨by kernel_rfl, ?_⟩; (conv => whnf))); refine callF m ⟨.refl _, .refl _, trivial⟩ (by trivial) rfl ?_)
  conv => whnf
  (repeat (refine ⟨by kernel_rfl, ?_⟩; (conv => whnf)))
  refine ⟨(by (try simp only [true_and, and_true, Nat.sub_zero, Nat.zero_add, Int.toNat_natCast]) <;> omega), ?_⟩
  exact .refl _
theorem sEqual_ok (a b : Rat) (h : rsz a ≤ 4398046500000) : ACall Tryz.prog 11 [rat a, rat b] (.f (.bool (decide (a = b)))) := by
  have e1 := rEqual_ii a.num b.num (Nat.le_trans (rsz_num h) (by omega))
  have e2 := refEqual_nn a.den b.den (Nat.le_trans (rsz_den h) (by omega))
  have hab : a = b ↔ a.num = b.num ∧ a.den = b.den := ⟨fun h => by rw [h]; exact ⟨rfl, rfl⟩, fun h => Rat.ext h.1 h.2⟩
  by_cases h1 : a.num = b.num
  · rw [show decide (a = b) = decide (a.den = b.den) by simp only [hab, h1, true_and]]
    rw [decide_eq_true h1] at e1
    refine acall_rule env [0, 1, 2, 3, 4] Tryz.func11 rfl rfl rfl rfl ?_
    conv => whnf
    first | refine callF e1 ⟨.refl _, .refl _, trivial⟩ (by trivial) rfl ?_ | ((repeat (refine ⟨by kernel_rfl, ?_⟩; (conv => whnf))); refine callF e1 ⟨.refl _, .refl _, trivial⟩ (by trivial) rfl ?_)
    conv => whnf
    first | refine callF e2 ⟨.refl _, .refl _, trivial⟩ (by trivial) rfl ?_ | ((repeat (refine ⟨by kernel_rfl, ?_⟩; (conv => whnf))); refine callF e2 ⟨.refl _, .refl _, trivial⟩ (by trivial) rfl ?_)
    conv => whnf
    (repeat (refine ⟨by kernel_rfl, ?_⟩; (conv => whnf)))
    refine ⟨(by (try simp only [true_and, and_true, Nat.sub_zero, Nat.zero_add, Int.toNat_natCast]) <;> omega), ?_⟩
    exact .refl _
  · rw [show decide (a = b) = false by simp only [hab, h1, false_and, decide_false]]
    rw [decide_eq_false h1] at e1
    refine acall_rule env [0, 1, 2, 3, 4] Tryz.func11 rfl rfl rfl rfl ?_
    conv => whnf
    first | refine callF e1 ⟨.refl _, .refl _, trivial⟩ (by trivial) rfl ?_ | ((repeat (refine ⟨by kernel_rfl, ?_⟩; (conv => whnf))); refine callF e1 ⟨.refl _, .refl _, trivial⟩ (by trivial) rfl ?_)
    conv => whnf
    (repeat (refine ⟨by kernel_rfl, ?_⟩; (conv => whnf)))
    refine ⟨(by (try simp only [true_and, and_true, Nat.sub_zero, Nat.zero_add, Int.toNat_natCast]) <;> omega), ?_⟩
    exact .refl _
theorem sEqual_same (a : Rat) (h : rsz a ≤ 4398046500000) : ACall Tryz.prog 11 [rat a, rat a] (.f (.bool true)) := by
  have := sEqual_ok a a h
  rwa [decide_eq_true rfl] at this
theorem sEqual_rat0 : ACall Tryz.prog 11 [rat0, rat0] (.f (.bool true)) := by
  have e1 := rEqual_raw false false (digit 0) (digit 0) (size 0) (size 0) (digit_Dig _ _) (digit_Dig _ _) (by decide)
  have e2 := refEqual_nn 0 0 (by decide)
  rw [decide_eq_true (by simp)] at e1 e2
  refine acall_rule env [0, 1, 2, 3, 4] Tryz.func11 rfl rfl rfl rfl ?_
  conv => whnf
  first | refine callF e1 ⟨.refl _, .refl _, trivial⟩ (by trivial) rfl ?_ | ((repeat (refine ⟨by kernel_rfl, ?_⟩; (conv => whnf))); refine callF e1 ⟨.refl _, .refl _, trivial⟩ (by trivial) rfl ?_)
  conv => whnf
  first | refine callF e2 ⟨.refl _, .refl _, trivial⟩ (by trivial) rfl ?_ | ((repeat (refine ⟨by kernel_rfl, ?_⟩; (conv => whnf))); refine callF e2 ⟨.refl _, .refl _, trivial⟩ (by trivial) rfl ?_)
  conv => whnf
  (repeat (refine ⟨by kernel_rfl, ?_⟩; (conv => whnf)))
  refine ⟨(by (try simp only [true_and, and_true, Nat.sub_zero, Nat.zero_add, Int.toNat_natCast]) <;> omega), ?_⟩
  exact .refl _
theorem sDen_ok {x : AV} {a : Rat} {s : Nat} (ha : IsR x a s) (hs : s ≤ 4398046500000) : ACall Tryz.prog 70 [x] (int (a.den : Nat)) := by
  have n := sNorm_ok ha hs
  rw [int_nonneg]
  obtain ⟨na, ga, la, ga', la', _, hga, hga', hn, hn', h1⟩ := ha
  generalize mkRat (ival na (nval ga la)) (nval ga' la') = a at *
  refine acall_rule env [0, 1, 2] Tryz.func70 rfl rfl rfl rfl ?_
  conv => whnf
  first | refine callF n ⟨.refl _, trivial⟩ (by trivial) rfl ?_ | ((repeat (refine ⟨by kernel_rfl, ?_⟩; (conv => whnf))); refine callF n ⟨.refl _, trivial⟩ (by trivial) rfl ?_)
  conv => whnf
  (repeat (refine ⟨by kernel_rfl, ?_⟩; (conv => whnf)))
  refine ⟨(by (try simp only [true_and, and_true, Nat.sub_zero, Nat.zero_add, Int.toNat_natCast]) <;> omega), ?_⟩
  exact .refl _
theorem sFromInt_ok (v : Int) (h : -9223372036854775808 ≤ v ∧ v ≤ 9223372036854775807) : ACall Tryz.prog 46 [.f (.int .i64 v)] (rat (v : Rat)) := by
  have f := rFromInt_ok v h
  have o := rFromInt_ok 1 (by decide)
  have m := sMake_ok (isI_int v (s := 2) (isz_small (by omega))) (isI_int 1 (s := 1) (by decide)) (by omega) (by omega)
  rw [divInt_one] at m
  refine acall_rule env [0, 2] Tryz.func46 rfl rfl rfl rfl ?_
  conv => whnf
  first | refine callF f ⟨.refl _, trivial⟩ (by trivial) rfl ?_ | ((repeat (refine ⟨by kernel_rfl, ?_⟩; (conv => whnf))); refine callF f ⟨.refl _, trivial⟩ (by trivial) rfl ?_)
  conv => whnf
  first | refine callF o ⟨.refl _, trivial⟩ (by trivial) rfl ?_ | ((repeat (refine ⟨by kernel_rfl, ?_⟩; (conv => whnf))); refine callF o ⟨.refl _, trivial⟩ (by trivial) rfl ?_)
  conv => whnf
  first | refine callF m ⟨.refl _, .refl _, trivial⟩ (by trivial) rfl ?_ | ((repeat (refine ⟨by kernel_rfl, ?_⟩; (conv => whnf))); refine callF m ⟨.refl _, .refl _, trivial⟩ (by trivial) rfl ?_)
  conv => whnf
  (repeat (refine ⟨by kernel_rfl, ?_⟩; (conv => whnf)))
  refine ⟨(by (try simp only [true_and, and_true, Nat.sub_zero, Nat.zero_add, Int.toNat_natCast]) <;> omega), ?_⟩
  exact .refl _
theorem sOf_ok (n d : Int) (hn : -9223372036854775808 ≤ n ∧ n ≤ 9223372036854775807) (hd : -9223372036854775808 ≤ d ∧ d ≤ 9223372036854775807) : ACall Tryz.prog 6 [.f (.int .i64 n), .f (.int .i64 d)] (rat (Rat.divInt n d)) := by
  have f := rFromInt_ok n hn
  have o := rFromInt_ok d hd
  have m := sMake_ok (isI_int n (s := 2) (isz_small (by omega))) (isI_int d (s := 2) (isz_small (by omega))) (by omega) (by omega)
  refine acall_rule env [0, 1, 4] Tryz.func6 rfl rfl rfl rfl ?_
  conv => whnf
  first | refine callF f ⟨.refl _, trivial⟩ (by trivial) rfl ?_ | ((repeat (refine ⟨by kernel_rfl, ?_⟩; (conv => whnf))); refine callF f ⟨.refl _, trivial⟩ (by trivial) rfl ?_)
  conv => whnf
  first | refine callF o ⟨.refl _, trivial⟩ (by trivial) rfl ?_ | ((repeat (refine ⟨by kernel_rfl, ?_⟩; (conv => whnf))); refine callF o ⟨.refl _, trivial⟩ (by trivial) rfl ?_)
  conv => whnf
  first | refine callF m ⟨.refl _, .refl _, trivial⟩ (by trivial) rfl ?_ | ((repeat (refine ⟨by kernel_rfl, ?_⟩; (conv => whnf))); refine callF m ⟨.refl _, .refl _, trivial⟩ (by trivial) rfl ?_)
  conv => whnf
  (repeat (refine ⟨by kernel_rfl, ?_⟩; (conv => whnf)))
  refine ⟨(by (try simp only [true_and, and_true, Nat.sub_zero, Nat.zero_add, Int.toNat_natCast]) <;> omega), ?_⟩
  exact .refl _
theorem sSign_ok {x : AV} {a : Rat} {s : Nat} (ha : IsR x a s) (hs : s ≤ 4398046500000) : ACall Tryz.prog 64 [x] (.f (.int .i64 (rcmp a 0))) := by
  have n := sNorm_ok ha hs
  have sa := ha.size
  have g := rSign_ok (isI_int a.num (rsz_num sa)) (by omega)
  rw [rcmp_num]
  obtain ⟨na, ga, la, ga', la', _, hga, hga', hn, hn', h1⟩ := ha
  generalize mkRat (ival na (nval ga la)) (nval ga' la') = a at *
  refine acall_rule env [0, 1, 2] Tryz.func64 rfl rfl rfl rfl ?_
  conv => whnf
  first | refine callF n ⟨.refl _, trivial⟩ (by trivial) rfl ?_ | ((repeat (refine ⟨by kernel_rfl, ?_⟩; (conv => whnf))); refine callF n ⟨.refl _, trivial⟩ (by trivial) rfl ?_)
  conv => whnf
  first | refine callF g ⟨.refl _, trivial⟩ (by trivial) rfl ?_ | ((repeat (refine ⟨by kernel_rfl, ?_⟩; (conv => whnf))); refine callF g ⟨.refl _, trivial⟩ (by trivial) rfl ?_)
  conv => whnf
  (repeat (refine ⟨by kernel_rfl, ?_⟩; (conv => whnf)))
  refine ⟨(by (try simp only [true_and, and_true, Nat.sub_zero, Nat.zero_add, Int.toNat_natCast]) <;> omega), ?_⟩
  exact .refl _
theorem sNeg_ok {x : AV} {a : Rat} {s : Nat} (ha : IsR x a s) (hs : s ≤ 4398046500000) : ACall Tryz.prog 47 [x] (rat (-a)) := by
  have n := sNorm_ok ha hs
  have sa := ha.size
  have g := rNeg_ok (isI_int a.num (rsz_num sa)) (by omega)
  have d := sDen_ok ha hs
  have m := sMake_ok (isI_int (-a.num) (s := s) (by rw [isz_neg]; exact rsz_num sa)) (isI_int (a.den : Nat) (s := s) (by rw [isz_nat]; exact rsz_den sa)) hs hs
  rw [← Rat.neg_divInt, Rat.num_divInt_den] at m
  obtain ⟨na, ga, la, ga', la', _, hga, hga', hn, hn', h1⟩ := ha
  generalize mkRat (ival na (nval ga la)) (nval ga' la') = a at *
  refine acall_rule env [0, 1, 2] Tryz.func47 rfl rfl rfl rfl ?_
  conv => whnf
  first | refine callF n ⟨.refl _, trivial⟩ (by trivial) rfl ?_ | ((repeat (refine ⟨by kernel_rfl, ?_⟩; (conv => whnf))); refine callF n ⟨.refl _, trivial⟩ (by trivial) rfl ?_)
  conv => whnf
  first | refine callF g ⟨.refl _, trivial⟩ (by trivial) rfl ?_ | ((repeat (refine ⟨by kernel_rfl, ?_⟩; (conv => whnf))); refine callF g ⟨.refl _, trivial⟩ (by trivial) rfl ?_)
  conv => whnf
  first | refine callF d ⟨.refl _, trivial⟩ (by trivial) rfl ?_ | ((repeat (refine ⟨by kernel_rfl, ?_⟩; (conv => whnf))); refine callF d ⟨.refl _, trivial⟩ (by trivial) rfl ?_)
  conv => whnf
  first | refine callF m ⟨.refl _, .refl _, trivial⟩ (by trivial) rfl ?_ | ((repeat (refine ⟨by kernel_rfl, ?_⟩; (conv => whnf))); refine callF m ⟨.refl _, .refl _, trivial⟩ (by trivial) rfl ?_)
  conv => whnf
  (repeat (refine ⟨by kernel_rfl, ?_⟩; (conv => whnf)))
  refine ⟨(by (try simp only [true_and, and_true, Nat.sub_zero, Nat.zero_add, Int.toNat_natCast]) <;> omega), ?_⟩
  exact .refl _
theorem sAdd_ok {x y : AV} {a b : Rat} {s t : Nat} (ha : IsR x a s) (hb : IsR y b t) (hs : s + t ≤ 4398046400000) :
    ACall Tryz.prog 91 [x, y] (rat (a + b)) := by
  have n1 := sNorm_ok ha (by omega)
  have n2 := sNorm_ok hb (by omega)
  have sa := ha.size
  have sb := hb.size
  have d1 := sDen_ok ha (by omega)
  have d2 := sDen_ok hb (by omega)
  have za := isI_int a.num (rsz_num sa)
  have zb := isI_int b.num (rsz_num sb)
  have ya := isI_int (a.den : Nat) (s := s) (by rw [isz_nat]; exact rsz_den sa)
  have yb := isI_int (b.den : Nat) (s := t) (by rw [isz_nat]; exact rsz_den sb)
  have m1 := rMul_ok za yb (by omega)
  have m2 := rMul_ok zb ya (by omega)
  have m3 := rMul_ok ya yb (by omega)
  have w1 := isz_mul za.size yb.size
  have w2 := isz_mul zb.size ya.size
  have w3 := isz_mul ya.size yb.size
  have a1 := rAdd_ok (isI_int _ w1) (isI_int _ w2) (by omega) (by omega)
  have w4 := isz_add w1 w2
  have mk := sMake_ok (isI_int _ w4) (isI_int _ w3) (by omega) (by omega)
  rw [show Rat.divInt (a.num * (b.den : Nat) + b.num * (a.den : Nat)) ((a.den : Nat) * (b.den : Nat)) = a + b by rw [Rat.add_def', ← Rat.divInt_ofNat, Int.natCast_mul]] at mk
  clear za zb ya yb
  obtain ⟨na, ga, n, ga', n', _, hga, hga', hn, hn', h1⟩ := ha
  obtain ⟨nb, gb, m, gb', m', _, hgb, hgb', hm, hm', h2⟩ := hb
  generalize mkRat (ival na (nval ga n)) (nval ga' n') = a at *
  generalize mkRat (ival nb (nval gb m)) (nval gb' m') = b at *
  refine acall_rule env [0, 1, 2, 3, 4, 5, 6] Tryz.func91 rfl rfl rfl rfl ?_
  conv => whnf
  first | refine callF n1 ⟨.refl _, trivial⟩ (by trivial) rfl ?_ | ((repeat (refine ⟨by kernel_rfl, ?_⟩; (conv => whnf))); refine callF n1 ⟨.refl _, trivial⟩ (by trivial) rfl ?_)
  conv => whnf
  first | refine callF n2 ⟨.refl _, trivial⟩ (by trivial) rfl ?_ | ((repeat (refine ⟨by kernel_rfl, ?_⟩; (conv => whnf))); refine callF n2 ⟨.refl _, trivial⟩ (by trivial) rfl ?_)
  conv => whnf
  first | refine callF d2 ⟨.refl _, trivial⟩ (by trivial) rfl ?_ | ((repeat (refine ⟨by kernel_rfl, ?_⟩; (conv => whnf))); refine callF d2 ⟨.refl _, trivial⟩ (by trivial) rfl ?_)
  conv => whnf
  first | refine callF m1 ⟨.refl _, .refl _, trivial⟩ (by trivial) rfl ?_ | ((repeat (refine ⟨by kernel_rfl, ?_⟩; (conv => whnf))); refine callF m1 ⟨.refl _, .refl _, trivial⟩ (by trivial) rfl ?_)
  conv => whnf
  first | refine callF d1 ⟨.refl _, trivial⟩ (by trivial) rfl ?_ | ((repeat (refine ⟨by kernel_rfl, ?_⟩; (conv => whnf))); refine callF d1 ⟨.refl _, trivial⟩ (by trivial) rfl ?_)
  conv => whnf
  first | refine callF m2 ⟨.refl _, .refl _, trivial⟩ (by trivial) rfl ?_ | ((repeat (refine ⟨by kernel_rfl, ?_⟩; (conv => whnf))); refine callF m2 ⟨.refl _, .refl _, trivial⟩ (by trivial) rfl ?_)
  conv => whnf
  first | refine callF a1 ⟨.refl _, .refl _, trivial⟩ (by trivial) rfl ?_ | ((repeat (refine ⟨by kernel_rfl, ?_⟩; (conv => whnf))); refine callF a1 ⟨.refl _, .refl _, trivial⟩ (by trivial) rfl ?_)
  conv => whnf
  first | refine callF d1 ⟨.refl _, trivial⟩ (by trivial) rfl ?_ | ((repeat (refine ⟨by kernel_rfl, ?_⟩; (conv => whnf))); refine callF d1 ⟨.refl _, trivial⟩ (by trivial) rfl ?_)
  conv => whnf
  first | refine callF d2 ⟨.refl _, trivial⟩ (by trivial) rfl ?_ | ((repeat (refine ⟨by kernel_rfl, ?_⟩; (conv => whnf))); refine callF d2 ⟨.refl _, trivial⟩ (by trivial) rfl ?_)
  conv => whnf
  first | refine callF m3 ⟨.refl _, .refl _, trivial⟩ (by trivial) rfl ?_ | ((repeat (refine ⟨by kernel_rfl, ?_⟩; (conv => whnf))); refine callF m3 ⟨.refl _, .refl _, trivial⟩ (by trivial) rfl ?_)
  conv => whnf
  first | refine callF mk ⟨.refl _, .refl _, trivial⟩ (by trivial) rfl ?_ | ((repeat (refine ⟨by kernel_rfl, ?_⟩; (conv => whnf))); refine callF mk ⟨.refl _, .refl _, trivial⟩ (by trivial) rfl ?_)
  conv => whnf
  (repeat (refine ⟨by kernel_rfl, ?_⟩; (conv => whnf)))
  refine ⟨(by (try simp only [true_and, and_true, Nat.sub_zero, Nat.zero_add, Int.toNat_natCast]) <;> omega), ?_⟩
  exact .refl _
theorem sSub_ok {x y : AV} {a b : Rat} {s t : Nat} (ha : IsR x a s) (hb : IsR y b t) (hs : s + t ≤ 4398046400000) :
    ACall Tryz.prog 65 [x, y] (rat (a - b)) := by
  have sb := hb.size
  have n1 := sNeg_ok hb (by omega)
  have a1 := sAdd_ok ha (isR_rat (-b) (s := t) (by rw [rsz_neg]; exact sb)) hs
  rw [← Rat.sub_eq_add_neg] at a1
  obtain ⟨na, ga, n, ga', n', _, hga, hga', hn, hn', h1⟩ := ha
  obtain ⟨nb, gb, m, gb', m', _, hgb, hgb', hm, hm', h2⟩ := hb
  generalize mkRat (ival na (nval ga n)) (nval ga' n') = a at *
  generalize mkRat (ival nb (nval gb m)) (nval gb' m') = b at *
  refine acall_rule env [0, 1, 2, 3, 4] Tryz.func65 rfl rfl rfl rfl ?_
  conv => whnf
  first | refine callF n1 ⟨.refl _, trivial⟩ (by trivial) rfl ?_ | ((repeat (refine ⟨by kernel_rfl, ?_⟩; (conv => whnf))); refine callF n1 ⟨.refl _, trivial⟩ (by trivial) rfl ?_)
  conv => whnf
  first | refine callF a1 ⟨.refl _, .refl _, trivial⟩ (by trivial) rfl ?_ | ((repeat (refine ⟨by kernel_rfl, ?_⟩; (conv => whnf))); refine callF a1 ⟨.refl _, .refl _, trivial⟩ (by trivial) rfl ?_)
  conv => whnf
  (repeat (refine ⟨by kernel_rfl, ?_⟩; (conv => whnf)))
  refine ⟨(by (try simp only [true_and, and_true, Nat.sub_zero, Nat.zero_add, Int.toNat_natCast]) <;> omega), ?_⟩
  exact .refl _
theorem sMul_ok {x y : AV} {a b : Rat} {s t : Nat} (ha : IsR x a s) (hb : IsR y b t) (hs : s + t ≤ 4398046400000) :
    ACall Tryz.prog 32 [x, y] (rat (a * b)) := by
  have n1 := sNorm_ok ha (by omega)
  have n2 := sNorm_ok hb (by omega)
  have sa := ha.size
  have sb := hb.size
  have d1 := sDen_ok ha (by omega)
  have d2 := sDen_ok hb (by omega)
  have za := isI_int a.num (rsz_num sa)
  have zb := isI_int b.num (rsz_num sb)
  have ya := isI_int (a.den : Nat) (s := s) (by rw [isz_nat]; exact rsz_den sa)
  have yb := isI_int (b.den : Nat) (s := t) (by rw [isz_nat]; exact rsz_den sb)
  have m1 := rMul_ok za zb (by omega)
  have m3 := rMul_ok ya yb (by omega)
  have w1 := isz_mul za.size zb.size
  have w3 := isz_mul ya.size yb.size
  have mk := sMake_ok (isI_int _ w1) (isI_int _ w3) (by omega) (by omega)
  rw [show Rat.divInt (a.num * b.num) ((a.den : Nat) * (b.den : Nat)) = a * b by rw [Rat.mul_def', ← Rat.divInt_ofNat, Int.natCast_mul]] at mk
  clear za zb ya yb
  obtain ⟨na, ga, n, ga', n', _, hga, hga', hn, hn', h1⟩ := ha
  obtain ⟨nb, gb, m, gb', m', _, hgb, hgb', hm, hm', h2⟩ := hb
  generalize mkRat (ival na (nval ga n)) (nval ga' n') = a at *
  generalize mkRat (ival nb (nval gb m)) (nval gb' m') = b at *
  refine acall_rule env [0, 1, 2, 3, 4] Tryz.func32 rfl rfl rfl rfl ?_
  conv => whnf
  first | refine callF n1 ⟨.refl _, trivial⟩ (by trivial) rfl ?_ | ((repeat (refine ⟨by kernel_rfl, ?_⟩; (conv => whnf))); refine callF n1 ⟨.refl _, trivial⟩ (by trivial) rfl ?_)
  conv => whnf
  first | refine callF n2 ⟨.refl _, trivial⟩ (by trivial) rfl ?_ | ((repeat (refine ⟨by kernel_rfl, ?_⟩; (conv => whnf))); refine callF n2 ⟨.refl _, trivial⟩ (by trivial) rfl ?_)
  conv => whnf
  first | refine callF m1 ⟨.refl _, .refl _, trivial⟩ (by trivial) rfl ?_ | ((repeat (refine ⟨by kernel_rfl, ?_⟩; (conv => whnf))); refine callF m1 ⟨.refl _, .refl _, trivial⟩ (by trivial) rfl ?_)
  conv => whnf
  first | refine callF d1 ⟨.refl _, trivial⟩ (by trivial) rfl ?_ | ((repeat (refine ⟨by kernel_rfl, ?_⟩; (conv => whnf))); refine callF d1 ⟨.refl _, trivial⟩ (by trivial) rfl ?_)
  conv => whnf
  first | refine callF d2 ⟨.refl _, trivial⟩ (by trivial) rfl ?_ | ((repeat (refine ⟨by kernel_rfl, ?_⟩; (conv => whnf))); refine callF d2 ⟨.refl _, trivial⟩ (by trivial) rfl ?_)
  conv => whnf
  first | refine callF m3 ⟨.refl _, .refl _, trivial⟩ (by trivial) rfl ?_ | ((repeat (refine ⟨by kernel_rfl, ?_⟩; (conv => whnf))); refine callF m3 ⟨.refl _, .refl _, trivial⟩ (by trivial) rfl ?_)
  conv => whnf
  first | refine callF mk ⟨.refl _, .refl _, trivial⟩ (by trivial) rfl ?_ | ((repeat (refine ⟨by kernel_rfl, ?_⟩; (conv => whnf))); refine callF mk ⟨.refl _, .refl _, trivial⟩ (by trivial) rfl ?_)
  conv => whnf
  (repeat (refine ⟨by kernel_rfl, ?_⟩; (conv => whnf)))
  refine ⟨(by (try simp only [true_and, and_true, Nat.sub_zero, Nat.zero_add, Int.toNat_natCast]) <;> omega), ?_⟩
  exact .refl _
theorem sCompare_ok {x y : AV} {a b : Rat} {s t : Nat} (ha : IsR x a s) (hb : IsR y b t) (hs : s + t ≤ 4398046300000) :
    ACall Tryz.prog 29 [x, y] (.f (.int .i64 (rcmp a b))) := by
  have d := sSub_ok ha hb (by omega)
  have g := sSign_ok (isR_rat (a - b) (rsz_sub ha.size hb.size)) (by omega)
  rw [rcmp_sub] at g
  obtain ⟨na, ga, n, ga', n', _, hga, hga', hn, hn', h1⟩ := ha
  obtain ⟨nb, gb, m, gb', m', _, hgb, hgb', hm, hm', h2⟩ := hb
  generalize mkRat (ival na (nval ga n)) (nval ga' n') = a at *
  generalize mkRat (ival nb (nval gb m)) (nval gb' m') = b at *
  generalize rcmp a b = C at *
  refine acall_rule env [0, 1, 2, 3, 4] Tryz.func29 rfl rfl rfl rfl ?_
  conv => whnf
  first | refine callF d ⟨.refl _, .refl _, trivial⟩ (by trivial) rfl ?_ | ((repeat (refine ⟨by kernel_rfl, ?_⟩; (conv => whnf))); refine callF d ⟨.refl _, .refl _, trivial⟩ (by trivial) rfl ?_)
  conv => whnf
  first | refine callF g ⟨.refl _, trivial⟩ (by trivial) rfl ?_ | ((repeat (refine ⟨by kernel_rfl, ?_⟩; (conv => whnf))); refine callF g ⟨.refl _, trivial⟩ (by trivial) rfl ?_)
  conv => whnf
  (repeat (refine ⟨by kernel_rfl, ?_⟩; (conv => whnf)))
  refine ⟨(by (try simp only [true_and, and_true, Nat.sub_zero, Nat.zero_add, Int.toNat_natCast]) <;> omega), ?_⟩
  exact .refl _
theorem sFloor_ok {x : AV} {a : Rat} {s : Nat} (ha : IsR x a s) (hs : s ≤ 4398046400000) : ACall Tryz.prog 34 [x] (int a.floor) := by
  have n1 := sNorm_ok ha (by omega)
  have sa := ha.size
  have d1 := sDen_ok ha (by omega)
  have q := rDivMod_ok (isI_int a.num (rsz_num sa)) (isI_int (a.den : Nat) (s := s) (by rw [isz_nat]; exact rsz_den sa)) (by omega) (by omega)
  unfold idivRes at q
  rw [if_neg (by have := a.den_nz; omega), ← Rat.floor_def] at q
  obtain ⟨na, ga, la, ga', la', _, hga, hga', hn, hn', h1⟩ := ha
  generalize mkRat (ival na (nval ga la)) (nval ga' la') = a at *
  generalize a.floor = f at *
  refine acall_rule env [0, 1, 2, 3] Tryz.func34 rfl rfl rfl rfl ?_
  conv => whnf
  first | refine callF n1 ⟨.refl _, trivial⟩ (by trivial) rfl ?_ | ((repeat (refine ⟨by kernel_rfl, ?_⟩; (conv => whnf))); refine callF n1 ⟨.refl _, trivial⟩ (by trivial) rfl ?_)
  conv => whnf
  first | refine callF d1 ⟨.refl _, trivial⟩ (by trivial) rfl ?_ | ((repeat (refine ⟨by kernel_rfl, ?_⟩; (conv => whnf))); refine callF d1 ⟨.refl _, trivial⟩ (by trivial) rfl ?_)
  conv => whnf
  first | refine callF q ⟨.refl _, .refl _, trivial⟩ (by trivial) rfl ?_ | ((repeat (refine ⟨by kernel_rfl, ?_⟩; (conv => whnf))); refine callF q ⟨.refl _, .refl _, trivial⟩ (by trivial) rfl ?_)
  conv => whnf
  (repeat (refine ⟨by kernel_rfl, ?_⟩; (conv => whnf)))
  refine ⟨(by (try simp only [true_and, and_true, Nat.sub_zero, Nat.zero_add, Int.toNat_natCast]) <;> omega), ?_⟩
  exact .refl _
theorem sCeil_ok {x : AV} {a : Rat} {s : Nat} (ha : IsR x a s) (hs : s ≤ 4398046400000) : ACall Tryz.prog 31 [x] (int a.ceil) := by
  have n1 := sNeg_ok ha (by omega)
  have sa := ha.size
  have f1 := sFloor_ok (isR_rat (-a) (s := s) (by rw [rsz_neg]; exact sa)) hs
  have n2 := rNeg_ok (isI_int (-a).floor (rsz_floor (-a) (s := s) (by rw [rsz_neg]; exact sa))) (by omega)
  rw [← Rat.ceil_eq_neg_floor_neg] at n2
  obtain ⟨na, ga, la, ga', la', _, hga, hga', hn, hn', h1⟩ := ha
  generalize mkRat (ival na (nval ga la)) (nval ga' la') = a at *
  generalize a.ceil = c at *
  generalize (-a).floor = c at *
  refine acall_rule env [0, 1, 2] Tryz.func31 rfl rfl rfl rfl ?_
  conv => whnf
  first | refine callF n1 ⟨.refl _, trivial⟩ (by trivial) rfl ?_ | ((repeat (refine ⟨by kernel_rfl, ?_⟩; (conv => whnf))); refine callF n1 ⟨.refl _, trivial⟩ (by trivial) rfl ?_)
  conv => whnf
  first | refine callF f1 ⟨.refl _, trivial⟩ (by trivial) rfl ?_ | ((repeat (refine ⟨by kernel_rfl, ?_⟩; (conv => whnf))); refine callF f1 ⟨.refl _, trivial⟩ (by trivial) rfl ?_)
  conv => whnf
  first | refine callF n2 ⟨.refl _, trivial⟩ (by trivial) rfl ?_ | ((repeat (refine ⟨by kernel_rfl, ?_⟩; (conv => whnf))); refine callF n2 ⟨.refl _, trivial⟩ (by trivial) rfl ?_)
  conv => whnf
  (repeat (refine ⟨by kernel_rfl, ?_⟩; (conv => whnf)))
  refine ⟨(by (try simp only [true_and, and_true, Nat.sub_zero, Nat.zero_add, Int.toNat_natCast]) <;> omega), ?_⟩
  exact .refl _
theorem sWhole_ok {x : AV} {z : Int} {s : Nat} (ha : IsI x z s) (hs : s ≤ 4398046400000) : ACall Tryz.prog 33 [x] (rat (z : Rat)) := by
  have o := rFromInt_ok 1 (by decide)
  have m := sMake_ok ha (isI_int 1 (s := 1) (by decide)) (by omega) (by omega)
  rw [divInt_one] at m
  obtain ⟨na, ga, n, _, hga, hn⟩ := ha
  refine acall_rule env [0, 1, 2] Tryz.func33 rfl rfl rfl rfl ?_
  conv => whnf
  first | refine callF o ⟨.refl _, trivial⟩ (by trivial) rfl ?_ | ((repeat (refine ⟨by kernel_rfl, ?_⟩; (conv => whnf))); refine callF o ⟨.refl _, trivial⟩ (by trivial) rfl ?_)
  conv => whnf
  first | refine callF m ⟨.refl _, .refl _, trivial⟩ (by trivial) rfl ?_ | ((repeat (refine ⟨by kernel_rfl, ?_⟩; (conv => whnf))); refine callF m ⟨.refl _, .refl _, trivial⟩ (by trivial) rfl ?_)
  conv => whnf
  (repeat (refine ⟨by kernel_rfl, ?_⟩; (conv => whnf)))
  refine ⟨(by (try simp only [true_and, and_true, Nat.sub_zero, Nat.zero_add, Int.toNat_natCast]) <;> omega), ?_⟩
  exact .refl _
end Go.Abs

/- Continued fractions: whole, FromContinued. -/
set_option autoImplicit false
set_option maxHeartbeats 4000000
set_option maxRecDepth 10000
set_option linter.unusedVariables false
set_option linter.unusedSimpArgs false
namespace Go.Abs
open Go Go.Proofs

theorem whole_ok {x : AV} {z : Int} {s : Nat} (h : IsI x z s) (hs : s ≤ 4398046500000) : ACall Tryz.prog 24 [x] (rat (z : Rat)) := by
  have f := iFromInt_ok 1 (by decide)
  have n := New_ok h (isI_int 1 (s := 1) (by decide)) (by omega) (by omega)
  unfold newRes at n
  rw [if_neg (by decide), divInt_one] at n
  obtain ⟨nx, gx, lx, _, hgx, hlx⟩ := h
  refine acall_rule env [0, 1, 2, 3] Tryz.func24 rfl rfl rfl rfl ?_
  conv => whnf
  first | refine callF f ⟨.refl _, trivial⟩ (by trivial) rfl ?_ | ((repeat (refine ⟨by kernel_rfl, ?_⟩; (conv => whnf))); refine callF f ⟨.refl _, trivial⟩ (by trivial) rfl ?_)
  conv => whnf
  first | refine callF n ⟨.refl _, .refl _, trivial⟩ (by trivial) rfl ?_ | ((repeat (refine ⟨by kernel_rfl, ?_⟩; (conv => whnf))); refine callF n ⟨.refl _, .refl _, trivial⟩ (by trivial) rfl ?_)
  conv => whnf
  (repeat (refine ⟨by kernel_rfl, ?_⟩; (conv => whnf)))
  refine ⟨(by (try simp only [true_and, and_true, Nat.sub_zero, Nat.zero_add, Int.toNat_natCast]) <;> omega), ?_⟩
  exact .refl _

/-- the cells of an integer in a list -/
def intC (z : Int) : List FV := [.bool (decide (z < 0)), .sl 1 (fun j => [.int .u32 (digit z.natAbs j : Nat)]) (size z.natAbs) none]
/-- a list of integers -/
def ints (l : List Int) : AV := .f (.sl 2 (fun j => intC (l.getD j 0)) l.length none)
def fcRes (l : List Int) : AV := match ofCf l with
  | some v => .tup [rat v, .f (.bool true)]
  | none => .tup [rat0, .f (.bool false)]
theorem lsz_drop (l : List Int) : ∀ i, lsz (l.drop i) ≤ lsz l := by
  induction l with
  | nil => intro i; simp
  | cons z l ih =>
    intro i
    cases i with
    | zero => exact Nat.le_refl _
    | succ i => rw [List.drop_succ_cons, lsz_cons]; exact Nat.le_trans (ih i) (by omega)
theorem lsz_get {l : List Int} {i : Nat} (h : i < l.length) : isz l[i] + 2 + lsz (l.drop (i + 1)) ≤ lsz l := by
  have := lsz_drop l i
  rw [List.drop_eq_getElem_cons h, lsz_cons] at this
  exact this
theorem ints_get {l : List Int} {i : Nat} (h : i < l.length) : intC (l.getD i 0) = intC l[i] := by
  rw [List.getD_eq_getElem?_getD, List.getElem?_eq_getElem h]; rfl

def ratL (q : Rat) : List AV := [.f (.bool (decide (q.num < 0))), nat q.num.natAbs, nat q.den]
def zR : List AV := [.f (.bool false), .f (.sl 1 (fun _ => [.int .u32 0]) 0 (some 0)), .f (.sl 1 (fun _ => [.int .u32 0]) 0 (some 0))]
def bp3 (k : Nat) : Nat × AV := (k, .lptr k 1 3 0 0)
def bx3 (k : Nat) (xs : List AV) : Nat × Nat × Blk := (k, 1, .vr xs)
theorem FromContinued_ok (l : List Int) (h : lsz l ≤ 1099511627776) : ACall Tryz.prog 25 [ints l] (fcRes l) := by
  have hlen : l.length ≤ lsz l := by
    clear h
    induction l with
    | nil => simp
    | cons z l ih => rw [lsz_cons, List.length_cons]; omega
  by_cases h0 : l.length = 0
  · obtain rfl := List.eq_nil_of_length_eq_zero h0
    refine acall_rule env [0, 2, 3, 4, 5, 6, 7, 10, 23, 32] Tryz.func25 rfl rfl rfl rfl ?_
    conv => whnf
    refine ⟨(by (try simp only [true_and, and_true, Nat.sub_zero, Nat.zero_add, Int.toNat_natCast]) <;> omega), ?_⟩
    exact .tup ⟨.rat0, .refl _, trivial⟩
  obtain ⟨n, hn⟩ : ∃ n, l.length = n + 1 := ⟨l.length - 1, by omega⟩
  have hsz : ∀ i, isz (l.getD i 0) ≤ 1099511627776 := by
    intro i
    rcases Nat.lt_or_ge i l.length with hi | hi
    · rw [List.getD_eq_getElem?_getD, List.getElem?_eq_getElem hi]
      have := lsz_get hi
      show isz l[i] ≤ _
      omega
    · rw [List.getD_eq_getElem?_getD, List.getElem?_eq_none hi]; exact Nat.zero_le _
  have w := fun i => whole_ok (isI_int (l.getD i 0) (hsz i)) (by omega)
  rw [hn] at hlen
  have hI : ∀ r, fcRes l = r → ints l = .f (.sl 2 (fun j => intC (l.getD j 0)) (n + 1) none) := by
    intro _ _; unfold ints; rw [hn]
  rw [hI _ rfl]
  have w1 := w n
  refine acall_rule env [0, 2, 3, 4, 5, 6, 7, 10, 23, 32] Tryz.func25 rfl rfl rfl rfl ?_
  conv => whnf
  refine sumi64 n (by omega) (by omega) ?_
  conv => whnf
  refine ⟨(by (try simp only [true_and, and_true, Nat.sub_zero, Nat.zero_add, Int.toNat_natCast]) <;> omega), ?_⟩
  conv => whnf
  first | refine callF w1 ⟨.refl _, trivial⟩ (by trivial) rfl ?_ | ((repeat (refine ⟨by kernel_rfl, ?_⟩; (conv => whnf))); refine callF w1 ⟨.refl _, trivial⟩ (by trivial) rfl ?_)
  conv => whnf
  refine fit64 (by omega) ?_
  conv => whnf
  refine loop_mod [0, 2, 3, 4, 5] [2, 4] [2, 3, 4] [2, 4]
    (fun μ fr hp => ∃ (i : Int) (V : Rat), -1 ≤ i ∧ i ≤ (n : Int) - 1 ∧ fr = [(0, .f (.sl 2 (fun j => intC (l.getD j 0)) (n + 1) none)), bp3 2, (3, .f (.bool false)), bp3 4, (5, .f (.int .i64 i))]
      ∧ hp = [bx3 2 zR, bx3 4 (ratL V)] ∧ μ = (i + 1).toNat ∧ ofCf (l.drop (i + 1).toNat) = some V ∧ rsz V ≤ lsz (l.drop (i + 1).toNat))
    (fun e fr hp => (e = .exit 0 ∧ ∃ V, fr = [bp3 2, (3, .f (.bool false)), bp3 4] ∧ hp = [bx3 2 zR, bx3 4 (ratL V)] ∧ ofCf l = some V) ∨ (e = .ret ∧ ∃ V, fr = [bp3 2, (3, .f (.bool false)), bp3 4] ∧ hp = [bx3 2 zR, bx3 4 (ratL V)] ∧ ofCf l = none))
    ⟨_, _, _, _, rfl, .refl _, (n + 1 : Nat) - 2, ((l.getD n 0 : Int) : Rat), by omega, by omega, rfl, rfl, rfl, ?_, ?_⟩ ?_ ?_
  · rw [show (((n + 1 : Nat) : Int) - 2 + 1).toNat = n by omega]
    rw [List.drop_eq_getElem_cons (show n < l.length by omega), List.drop_eq_nil_of_le (by omega), List.getD_eq_getElem?_getD, List.getElem?_eq_getElem (show n < l.length by omega)]
    rfl
  · rw [show (((n + 1 : Nat) : Int) - 2 + 1).toNat = n by omega]
    rw [List.drop_eq_getElem_cons (show n < l.length by omega), lsz_cons, List.getD_eq_getElem?_getD, List.getElem?_eq_getElem (show n < l.length by omega)]
    exact Nat.le_trans (rsz_int (s := isz l[n] + 1) l[n] (by omega) (by omega)) (by omega)
  · rintro e fr hp (⟨rfl, V, rfl, rfl, hV⟩ | ⟨rfl, V, rfl, rfl, hV⟩)
    · unfold fcRes; rw [hV]
      conv => whnf
      (repeat (refine ⟨by kernel_rfl, ?_⟩; (conv => whnf)))
      refine ⟨(by (try simp only [true_and, and_true, Nat.sub_zero, Nat.zero_add, Int.toNat_natCast]) <;> omega), ?_⟩
      exact .refl _
    · unfold fcRes; rw [hV]
      conv => whnf
      refine ⟨(by (try simp only [true_and, and_true, Nat.sub_zero, Nat.zero_add, Int.toNat_natCast]) <;> omega), ?_⟩
      exact .tup ⟨.rat0, .refl _, trivial⟩
  rintro μ _ _ ⟨i, V, h1, h2, rfl, rfl, hμ, hV, hs⟩
  have hd := lsz_drop l (i + 1).toNat
  have iv := qInv_ok (isR_rat V hs) (by omega)
  by_cases hi : i < 0
  · have : i = -1 := by omega
    subst this
    conv => whnf
    exact ⟨_, _, _, rfl, .refl _, .inl ⟨rfl, V, rfl, rfl, hV⟩⟩
  obtain ⟨j, rfl⟩ : ∃ j : Nat, i = j := ⟨i.toNat, by omega⟩
  have hj : j < l.length := by omega
  have hjn : ((j : Int) + 1).toNat = j + 1 := by omega
  rw [hjn] at hV hs hd hμ
  have hdrop : l.drop j = l.getD j 0 :: l.drop (j + 1) := by
    rw [List.drop_eq_getElem_cons hj, List.getD_eq_getElem?_getD, List.getElem?_eq_getElem hj]; rfl
  have hne : l.drop (j + 1) ≠ [] := by
    intro h; have := congrArg List.length h; simp at this; omega
  by_cases hV0 : V = 0
  · subst hV0
    have hnone : ofCf l = none := ofCf_drop_none l j hj (by rw [hdrop]; exact ofCf_zero _ hV)
    rw [invRes, if_pos rfl] at iv
    conv => whnf
    first | refine callF iv ⟨.refl _, trivial⟩ (by trivial) rfl ?_ | ((repeat (refine ⟨by kernel_rfl, ?_⟩; (conv => whnf))); refine callF iv ⟨.refl _, trivial⟩ (by trivial) rfl ?_)
    conv => whnf
    exact ⟨_, _, _, rfl, .refl _, .inr ⟨rfl, 0, rfl, rfl, hnone⟩⟩
  · rw [invRes, if_neg hV0] at iv
    have wj := w j
    have zj := hsz j
    have z2 := lsz_drop l j
    rw [hdrop, lsz_cons] at z2
    have one : 1 ≤ 1099511627776 := by omega
    have ad := qAdd_ok (isR_rat ((l.getD j 0 : Int) : Rat) (s := isz (l.getD j 0) + 1) (rsz_int _ (by omega) (by omega))) (isR_rat V⁻¹ (rsz_inv V hs)) (by omega)
    conv => whnf
    first | refine callF iv ⟨.refl _, trivial⟩ (by trivial) rfl ?_ | ((repeat (refine ⟨by kernel_rfl, ?_⟩; (conv => whnf))); refine callF iv ⟨.refl _, trivial⟩ (by trivial) rfl ?_)
    conv => whnf
    refine ⟨(by (try simp only [true_and, and_true, Nat.sub_zero, Nat.zero_add, Int.toNat_natCast]) <;> omega), ?_⟩
    conv => whnf
    first | refine callF wj ⟨.refl _, trivial⟩ (by trivial) rfl ?_ | ((repeat (refine ⟨by kernel_rfl, ?_⟩; (conv => whnf))); refine callF wj ⟨.refl _, trivial⟩ (by trivial) rfl ?_)
    conv => whnf
    first | refine callF ad ⟨.refl _, .refl _, trivial⟩ (by trivial) rfl ?_ | ((repeat (refine ⟨by kernel_rfl, ?_⟩; (conv => whnf))); refine callF ad ⟨.refl _, .refl _, trivial⟩ (by trivial) rfl ?_)
    conv => whnf
    refine ⟨by kernel_rfl, ?_⟩
    conv => whnf
    refine fit64 (by omega) ?_
    conv => whnf
    refine ⟨_, ?_, _, _, _, rfl, .refl _, (j : Int) - 1, _, by omega, by omega, rfl, rfl, rfl, ?_, ?_⟩
    · omega
    · rw [show ((j : Int) - 1 + 1).toNat = j by omega, hdrop]
      exact ofCf_some _ hV hV0
    · rw [show ((j : Int) - 1 + 1).toNat = j by omega, hdrop, lsz_cons]
      exact Nat.le_trans (rsz_int_add (Nat.le_refl _) hs) (by omega)
end Go.Abs

/- Continued fractions: Continued. -/
set_option autoImplicit false
set_option maxHeartbeats 4000000
set_option maxRecDepth 10000
set_option linter.unusedVariables false
set_option linter.unusedSimpArgs false
namespace Go.Abs
open Go Go.Proofs

theorem Continued_ok {x : AV} {a : Rat} {s : Nat} (ha : IsR x a s) (hs : s ≤ 1048576) (hlen : (cf a).length ≤ 1099511627776) : ACall Tryz.prog 37 [x] (ints (cf a)) := by
  have za := ha.size
  obtain ⟨na, ga, la, ga', la', _, hga, hga', hna, hna', h1⟩ := ha
  have hq0 : ∃ xs, IsR (.agg xs) (mkRat (ival na (nval ga la)) (nval ga' la')) s ∧ xs = [.f (.bool na), raw ga la, raw ga' la'] := ⟨_, .mk na ga la ga' la' s hga hga' hna hna' h1, rfl⟩
  generalize mkRat (ival na (nval ga la)) (nval ga' la') = a at *
  refine acall_rule env [0, 1, 2, 3, 4, 5, 6, 22] Tryz.func37 rfl rfl rfl rfl ?_
  conv => whnf
  refine loop_modE
    (fun μ fr hp => ∃ (pre : List Int) (q : Rat) (xs : List AV), cf a = pre ++ cf q ∧ IsR (.agg xs) q s ∧ μ = (cf q).length ∧
      (∃ na ga la ga' la', xs = [.f (.bool na), raw ga la, raw ga' la']) ∧
      ((pre = [] ∧ fr = [bp3 1, (3, .f (.sl 2 (fun _ => [.bool false, .sl 1 (fun _ => [.int .u32 0]) 0 (some 0)]) 0 (some 0)))] ∧ hp = [(1, 1, .vr xs)]) ∨
       (pre ≠ [] ∧ fr = [bp3 1, (3, .lsl 12 1 2 0 pre.length none)] ∧ hp = [(1, 1, .vr xs), (12, 1, .fa 2 pre.length (fun j => intC (pre.getD j 0)))])))
    (fun e fr hp => e = .ret ∧ fr = [(2, .lsl 12 1 2 0 (cf a).length none)] ∧ hp = [(12, 1, .fa 2 (cf a).length (fun j => intC ((cf a).getD j 0)))])
    ⟨_, [1, 3], [1], _, _, _, rfl, .refl _, [], a, [.f (.bool na), raw ga la, raw ga' la'], rfl, by obtain ⟨xs, h, rfl⟩ := hq0; exact h, rfl, ⟨_, _, _, _, _, rfl⟩, .inl ⟨rfl, rfl, rfl⟩⟩ ?_ ?_
  · rintro _ _ _ ⟨rfl, rfl, rfl⟩
    conv => whnf
    refine ⟨(by (try simp only [true_and, and_true, Nat.sub_zero, Nat.zero_add, Int.toNat_natCast]) <;> omega), .f (.sl (fun j hj => ?_) (.inl rfl))⟩
    simp only [Nat.zero_add]
    exact ⟨.refl _, .refl _, trivial⟩
  rintro μ _ _ ⟨pre, q, xs, hcf, hq, rfl, ⟨na, ga, la, ga', la', rfl⟩, hsh⟩
  have zq := hq.size
  have f1 := qFloor_ok hq (by omega)
  have zf := rsz_floor q zq
  have w1 := whole_ok (isI_int q.floor zf) (by omega)
  have u1 := qSub_ok hq (isR_rat _ (rsz_int _ zf h1)) (by omega)
  have zs := rsz_sub zq (rsz_int _ zf h1)
  have i1 := qInv_ok (isR_rat _ zs) (by omega)
  change ACall Tryz.prog _ _ (rat (frac q)) at u1
  change ACall Tryz.prog _ [rat (frac q)] (invRes (frac q)) at i1
  have zn := rsz_next q zq
  have hlp := congrArg List.length hcf
  rw [List.length_append] at hlp
  have hlen0 : ∀ (l : List Int) (x : Int), (l ++ [x]).getD l.length 0 = x := by intro l x; simp
  have hlen1 : ∀ (l : List Int) (x : Int) (j : Nat), j < l.length → (l ++ [x]).getD j 0 = l.getD j 0 := by
    intro l x j hj; simp only [List.getD_eq_getElem?_getD]; rw [List.getElem?_append_left hj]
  rcases hsh with ⟨rfl, rfl, rfl⟩ | ⟨hpre, rfl, rfl⟩
  · by_cases h : frac q = 0
    · have hca : cf a = [q.floor] := by rw [hcf, cf_end q h]; rfl
      rw [invRes, if_pos h] at i1
      conv => whnf
      first | refine callF f1 ⟨.refl _, trivial⟩ (by trivial) rfl ?_ | ((repeat (refine ⟨by kernel_rfl, ?_⟩; (conv => whnf))); refine callF f1 ⟨.refl _, trivial⟩ (by trivial) rfl ?_)
      conv => whnf
      refine ⟨⟨(show 1 ≤ 2 / 2 - 0 by decide), by omega, (show 1 * 32 ≤ 281474976710656 by decide)⟩, ?_⟩
      conv => whnf
      first | refine callF w1 ⟨.refl _, trivial⟩ (by trivial) rfl ?_ | ((repeat (refine ⟨by kernel_rfl, ?_⟩; (conv => whnf))); refine callF w1 ⟨.refl _, trivial⟩ (by trivial) rfl ?_)
      conv => whnf
      first | refine callF u1 ⟨.refl _, .refl _, trivial⟩ (by trivial) rfl ?_ | ((repeat (refine ⟨by kernel_rfl, ?_⟩; (conv => whnf))); refine callF u1 ⟨.refl _, .refl _, trivial⟩ (by trivial) rfl ?_)
      conv => whnf
      first | refine callF i1 ⟨.refl _, trivial⟩ (by trivial) rfl ?_ | ((repeat (refine ⟨by kernel_rfl, ?_⟩; (conv => whnf))); refine callF i1 ⟨.refl _, trivial⟩ (by trivial) rfl ?_)
      conv => whnf
      refine ⟨by kernel_rfl, ?_⟩
      conv => whnf
      rw [hca]
      refine ⟨[2], [12], _, _, [(12, 1, .fa 2 1 (fun j => intC ([q.floor].getD j 0)))], rfl, ⟨⟨rfl, rfl⟩, .fa (fun j hj => ?_), trivial⟩, rfl, rfl, rfl⟩
      obtain rfl : j = 0 := by omega
      exact ⟨.refl _, .refl _, trivial⟩
    · have hc2 : cf q = q.floor :: cf (frac q)⁻¹ := cf_step q h
      rw [invRes, if_neg h] at i1
      conv => whnf
      first | refine callF f1 ⟨.refl _, trivial⟩ (by trivial) rfl ?_ | ((repeat (refine ⟨by kernel_rfl, ?_⟩; (conv => whnf))); refine callF f1 ⟨.refl _, trivial⟩ (by trivial) rfl ?_)
      conv => whnf
      refine ⟨⟨(show 1 ≤ 2 / 2 - 0 by decide), by omega, (show 1 * 32 ≤ 281474976710656 by decide)⟩, ?_⟩
      conv => whnf
      first | refine callF w1 ⟨.refl _, trivial⟩ (by trivial) rfl ?_ | ((repeat (refine ⟨by kernel_rfl, ?_⟩; (conv => whnf))); refine callF w1 ⟨.refl _, trivial⟩ (by trivial) rfl ?_)
      conv => whnf
      first | refine callF u1 ⟨.refl _, .refl _, trivial⟩ (by trivial) rfl ?_ | ((repeat (refine ⟨by kernel_rfl, ?_⟩; (conv => whnf))); refine callF u1 ⟨.refl _, .refl _, trivial⟩ (by trivial) rfl ?_)
      conv => whnf
      first | refine callF i1 ⟨.refl _, trivial⟩ (by trivial) rfl ?_ | ((repeat (refine ⟨by kernel_rfl, ?_⟩; (conv => whnf))); refine callF i1 ⟨.refl _, trivial⟩ (by trivial) rfl ?_)
      conv => whnf
      refine ⟨by kernel_rfl, ?_⟩
      conv => whnf
      refine ⟨_, ?_, [1, 3], [1, 12], _, _, [_, (12, 1, .fa 2 1 (fun j => intC ([q.floor].getD j 0)))], rfl, ⟨⟨rfl, rfl⟩, .refl _, ⟨rfl, rfl⟩, .fa (fun j hj => ?_), trivial⟩, [q.floor], (frac q)⁻¹, _, ?_, isR_rat _ zn, rfl, ⟨_, _, _, _, _, rfl⟩, .inr ⟨by simp, rfl, rfl⟩⟩
      · rw [hc2]; simp
      · obtain rfl : j = 0 := by omega
        exact ⟨.refl _, .refl _, trivial⟩
      · rw [hcf, hc2]; rfl
  · have happ : ∀ j, j < pre.length + 1 → ∀ (y : List FV), y = intC q.floor → All2 FVle (if j < pre.length then intC (pre.getD (0 + j) 0) else y) (intC ((pre ++ [q.floor]).getD j 0)) := by
      intro j hj y hy
      rw [Nat.zero_add]
      by_cases hj2 : j < pre.length
      · rw [if_pos hj2, hlen1 _ _ _ hj2]; exact ⟨.refl _, .refl _, trivial⟩
      · obtain rfl : j = pre.length := by omega
        rw [if_neg hj2, hlen0, hy]; exact ⟨.refl _, .refl _, trivial⟩
    have hend : ∀ j, j < pre.length + 1 → ¬ j < pre.length → ∀ (l : List FV), l.length = 2 → List.take 2 (List.drop ((0 + (j - pre.length)) * 2) l) = l := by
      intro j h1 h2 l hl
      obtain rfl : j = pre.length := by omega
      rw [Nat.sub_self, Nat.zero_add, Nat.zero_mul, List.drop_zero, List.take_of_length_le (by omega)]
    have hp2 : (pre ++ [q.floor]).length = pre.length + 1 := by simp
    by_cases h : frac q = 0
    · have hca : cf a = pre ++ [q.floor] := by rw [hcf, cf_end q h]
      rw [invRes, if_pos h] at i1
      rw [hca]
      conv => whnf
      first | refine callF f1 ⟨.refl _, trivial⟩ (by trivial) rfl ?_ | ((repeat (refine ⟨by kernel_rfl, ?_⟩; (conv => whnf))); refine callF f1 ⟨.refl _, trivial⟩ (by trivial) rfl ?_)
      conv => whnf
      refine ⟨⟨(show 1 ≤ 2 / 2 - 0 by decide), by omega, by omega, (show (pre.length + 1) * 32 ≤ 140737488355328 by omega)⟩, ?_⟩
      conv => whnf
      first | refine callF w1 ⟨.refl _, trivial⟩ (by trivial) rfl ?_ | ((repeat (refine ⟨by kernel_rfl, ?_⟩; (conv => whnf))); refine callF w1 ⟨.refl _, trivial⟩ (by trivial) rfl ?_)
      conv => whnf
      first | refine callF u1 ⟨.refl _, .refl _, trivial⟩ (by trivial) rfl ?_ | ((repeat (refine ⟨by kernel_rfl, ?_⟩; (conv => whnf))); refine callF u1 ⟨.refl _, .refl _, trivial⟩ (by trivial) rfl ?_)
      conv => whnf
      first | refine callF i1 ⟨.refl _, trivial⟩ (by trivial) rfl ?_ | ((repeat (refine ⟨by kernel_rfl, ?_⟩; (conv => whnf))); refine callF i1 ⟨.refl _, trivial⟩ (by trivial) rfl ?_)
      conv => whnf
      refine ⟨by kernel_rfl, ?_⟩
      conv => whnf
      refine ⟨[2], [12], _, _, [(12, 1, .fa 2 (pre.length + 1) (fun j => intC ((pre ++ [q.floor]).getD j 0)))], rfl, ⟨⟨rfl, rfl⟩, .fa (fun j hj => ?_), trivial⟩, rfl, ?_, ?_⟩
      · by_cases hj2 : j < pre.length
        · have := happ j hj _ rfl
          rw [if_pos hj2] at this
          show All2 FVle (if j < pre.length then _ else _) _
          rw [if_pos hj2]; exact this
        · have := happ j hj _ rfl
          rw [if_neg hj2] at this
          show All2 FVle (if j < pre.length then _ else _) _
          rw [if_neg hj2]
          show All2 FVle (List.take 2 (List.drop ((0 + (j - pre.length)) * 2) _)) _
          rw [hend j hj hj2 _ rfl]; exact this
      · rw [hp2]
      · rw [hp2]
    · have hc2 : cf q = q.floor :: cf (frac q)⁻¹ := cf_step q h
      rw [invRes, if_neg h] at i1
      rw [hc2, List.length_cons] at hlp
      conv => whnf
      first | refine callF f1 ⟨.refl _, trivial⟩ (by trivial) rfl ?_ | ((repeat (refine ⟨by kernel_rfl, ?_⟩; (conv => whnf))); refine callF f1 ⟨.refl _, trivial⟩ (by trivial) rfl ?_)
      conv => whnf
      refine ⟨⟨(show 1 ≤ 2 / 2 - 0 by decide), by omega, by omega, (show (pre.length + 1) * 32 ≤ 140737488355328 by omega)⟩, ?_⟩
      conv => whnf
      first | refine callF w1 ⟨.refl _, trivial⟩ (by trivial) rfl ?_ | ((repeat (refine ⟨by kernel_rfl, ?_⟩; (conv => whnf))); refine callF w1 ⟨.refl _, trivial⟩ (by trivial) rfl ?_)
      conv => whnf
      first | refine callF u1 ⟨.refl _, .refl _, trivial⟩ (by trivial) rfl ?_ | ((repeat (refine ⟨by kernel_rfl, ?_⟩; (conv => whnf))); refine callF u1 ⟨.refl _, .refl _, trivial⟩ (by trivial) rfl ?_)
      conv => whnf
      first | refine callF i1 ⟨.refl _, trivial⟩ (by trivial) rfl ?_ | ((repeat (refine ⟨by kernel_rfl, ?_⟩; (conv => whnf))); refine callF i1 ⟨.refl _, trivial⟩ (by trivial) rfl ?_)
      conv => whnf
      refine ⟨by kernel_rfl, ?_⟩
      conv => whnf
      refine ⟨_, ?_, [1, 3], [1, 12], _, _, [(1, 1, .vr (ratL (frac q)⁻¹)), (12, 1, .fa 2 (pre.length + 1) (fun j => intC ((pre ++ [q.floor]).getD j 0)))], rfl, ⟨⟨rfl, rfl⟩, .refl _, ⟨rfl, rfl⟩, .fa (fun j hj => ?_), trivial⟩, pre ++ [q.floor], (frac q)⁻¹, _, ?_, isR_rat _ zn, rfl, ⟨_, _, _, _, _, rfl⟩, .inr ⟨by simp, ?_, ?_⟩⟩
      · rw [hc2]; simp
      · by_cases hj2 : j < pre.length
        · have := happ j hj _ rfl
          rw [if_pos hj2] at this
          show All2 FVle (if j < pre.length then _ else _) _
          rw [if_pos hj2]; exact this
        · have := happ j hj _ rfl
          rw [if_neg hj2] at this
          show All2 FVle (if j < pre.length then _ else _) _
          rw [if_neg hj2]
          show All2 FVle (List.take 2 (List.drop ((0 + (j - pre.length)) * 2) _)) _
          rw [hend j hj hj2 _ rfl]; exact this
      · rw [hcf, hc2]; simp
      · rw [hp2]; rfl
      · rw [hp2]; rfl
end Go.Abs

/- Short rationals: plus, above, steps. -/
set_option autoImplicit false
set_option maxHeartbeats 4000000
set_option maxRecDepth 10000
set_option linter.unusedVariables false
set_option linter.unusedSimpArgs false
namespace Go.Abs
open Go Go.Proofs

/-- a fraction as data -/
def frc (p q : Int) : AV := .agg [.f (.bool (decide (p < 0))), nat p.natAbs, .f (.bool (decide (q < 0))), nat q.natAbs]
theorem above_ok {p q p' q' : Int} {B : Nat} (h1 : isz p ≤ B) (h2 : isz q ≤ B) (h3 : isz p' ≤ B) (h4 : isz q' ≤ B) (hB : B ≤ 1099511627776) :
    ACall Tryz.prog 95 [frc p q, frc p' q'] (int (p * q' - p' * q)) := by
  have m1 := iMul_ok (isI_int p h1) (isI_int q' h4) (by omega)
  have m2 := iMul_ok (isI_int p' h3) (isI_int q h2) (by omega)
  have s1 := iSub_ok (isI_int (p * q') (isz_mul h1 h4)) (isI_int (p' * q) (isz_mul h3 h2)) (by omega) (by omega)
  refine acall_rule env [0, 1, 2, 3, 4] Tryz.func95 rfl rfl rfl rfl ?_
  conv => whnf
  first | refine callF m1 ⟨.refl _, .refl _, trivial⟩ (by trivial) rfl ?_ | ((repeat (refine ⟨by kernel_rfl, ?_⟩; (conv => whnf))); refine callF m1 ⟨.refl _, .refl _, trivial⟩ (by trivial) rfl ?_)
  conv => whnf
  first | refine callF m2 ⟨.refl _, .refl _, trivial⟩ (by trivial) rfl ?_ | ((repeat (refine ⟨by kernel_rfl, ?_⟩; (conv => whnf))); refine callF m2 ⟨.refl _, .refl _, trivial⟩ (by trivial) rfl ?_)
  conv => whnf
  first | refine callF s1 ⟨.refl _, .refl _, trivial⟩ (by trivial) rfl ?_ | ((repeat (refine ⟨by kernel_rfl, ?_⟩; (conv => whnf))); refine callF s1 ⟨.refl _, .refl _, trivial⟩ (by trivial) rfl ?_)
  conv => whnf
  (repeat (refine ⟨by kernel_rfl, ?_⟩; (conv => whnf)))
  refine ⟨(by (try simp only [true_and, and_true, Nat.sub_zero, Nat.zero_add, Int.toNat_natCast]) <;> omega), ?_⟩
  exact .refl _
theorem plus_ok {p q p' q' k : Int} {B : Nat} (h1 : isz p ≤ B) (h2 : isz q ≤ B) (h3 : isz p' ≤ B) (h4 : isz q' ≤ B) (h5 : isz k ≤ B) (hB : B ≤ 1099511627776) :
    ACall Tryz.prog 75 [frc p q, frc p' q', int k] (frc (p + k * p') (q + k * q')) := by
  have m1 := iMul_ok (isI_int k h5) (isI_int p' h3) (by omega)
  have m2 := iMul_ok (isI_int k h5) (isI_int q' h4) (by omega)
  have s1 := iAdd_ok (isI_int p h1) (isI_int (k * p') (isz_mul h5 h3)) (by omega) (by omega)
  have s2 := iAdd_ok (isI_int q h2) (isI_int (k * q') (isz_mul h5 h4)) (by omega) (by omega)
  refine acall_rule env [0, 1, 2, 3, 4, 5, 6] Tryz.func75 rfl rfl rfl rfl ?_
  conv => whnf
  first | refine callF m1 ⟨.refl _, .refl _, trivial⟩ (by trivial) rfl ?_ | ((repeat (refine ⟨by kernel_rfl, ?_⟩; (conv => whnf))); refine callF m1 ⟨.refl _, .refl _, trivial⟩ (by trivial) rfl ?_)
  conv => whnf
  first | refine callF s1 ⟨.refl _, .refl _, trivial⟩ (by trivial) rfl ?_ | ((repeat (refine ⟨by kernel_rfl, ?_⟩; (conv => whnf))); refine callF s1 ⟨.refl _, .refl _, trivial⟩ (by trivial) rfl ?_)
  conv => whnf
  first | refine callF m2 ⟨.refl _, .refl _, trivial⟩ (by trivial) rfl ?_ | ((repeat (refine ⟨by kernel_rfl, ?_⟩; (conv => whnf))); refine callF m2 ⟨.refl _, .refl _, trivial⟩ (by trivial) rfl ?_)
  conv => whnf
  first | refine callF s2 ⟨.refl _, .refl _, trivial⟩ (by trivial) rfl ?_ | ((repeat (refine ⟨by kernel_rfl, ?_⟩; (conv => whnf))); refine callF s2 ⟨.refl _, .refl _, trivial⟩ (by trivial) rfl ?_)
  conv => whnf
  (repeat (refine ⟨by kernel_rfl, ?_⟩; (conv => whnf)))
  refine ⟨(by (try simp only [true_and, and_true, Nat.sub_zero, Nat.zero_add, Int.toNat_natCast]) <;> omega), ?_⟩
  exact .refl _
theorem steps_ok {p q p' q' xp xq M : Int} {m : AV} {B : Nat} (h1 : isz p ≤ B) (h2 : isz q ≤ B) (h3 : isz p' ≤ B) (h4 : isz q' ≤ B) (h5 : isz xp ≤ B) (h6 : isz xq ≤ B) (hm : IsI m M B) (hB : B ≤ 274877906944)
    (hb : p' * xq - xp * q' ≠ 0) (hq : q' ≠ 0) :
    ACall Tryz.prog 74 [frc p q, frc p' q', frc xp xq, m] (int (nbK ((xp * q - p * xq).natAbs : Nat) ((p' * xq - xp * q').natAbs : Nat) M q q')) := by
  have a1 := above_ok h5 h6 h1 h2 (show B ≤ 1099511627776 by omega)
  have a2 := above_ok h3 h4 h5 h6 (show B ≤ 1099511627776 by omega)
  have z1 := isz_sub (isz_mul h5 h2) (isz_mul h1 h6)
  have z2 := isz_sub (isz_mul h3 h6) (isz_mul h5 h4)
  have b1 := iAbs_ok (isI_int _ z1) (by omega)
  have b2 := iAbs_ok (isI_int _ z2) (by omega)
  rw [← isz_abs] at z1 z2
  have d1 := iDivMod_ok (isI_int _ z1) (isI_int _ z2) (by omega) (by omega)
  rw [idivRes, if_neg (by omega)] at d1
  have zm := hm.size
  have z3 := isz_sub zm h2
  have s1 := iSub_ok hm (isI_int q h2) (by omega) (by omega)
  have d2 := iDivMod_ok (isI_int _ z3) (isI_int _ h4) (by omega) (by omega)
  rw [idivRes, if_neg hq] at d2
  have c1 := iCompare_ok (isI_int _ (Nat.le_trans (isz_ediv _ q') z3)) (isI_int _ (Nat.le_trans (isz_ediv _ ((p' * xq - xp * q').natAbs : Nat)) z1)) (by omega) (by omega)
  unfold nbK
  obtain ⟨nm, gm, lm, _, hgm, hlm⟩ := hm
  generalize ival nm (nval gm lm) = M at *
  generalize (xp * q - p * xq) = A at *
  generalize (p' * xq - xp * q') = C at *
  generalize (M - q) / q' = N at *
  generalize ((A.natAbs : Nat) : Int) / (C.natAbs : Nat) = K at *
  by_cases h : N < K
  · rw [if_pos h]
    rw [icmp, if_pos h] at c1
    refine acall_rule env [0, 1, 2, 3, 4, 5, 6, 7, 8, 9, 12, 42] Tryz.func74 rfl rfl rfl rfl ?_
    conv => whnf
    first | refine callF a1 ⟨.refl _, .refl _, trivial⟩ (by trivial) rfl ?_ | ((repeat (refine ⟨by kernel_rfl, ?_⟩; (conv => whnf))); refine callF a1 ⟨.refl _, .refl _, trivial⟩ (by trivial) rfl ?_)
    conv => whnf
    first | refine callF b1 ⟨.refl _, trivial⟩ (by trivial) rfl ?_ | ((repeat (refine ⟨by kernel_rfl, ?_⟩; (conv => whnf))); refine callF b1 ⟨.refl _, trivial⟩ (by trivial) rfl ?_)
    conv => whnf
    first | refine callF a2 ⟨.refl _, .refl _, trivial⟩ (by trivial) rfl ?_ | ((repeat (refine ⟨by kernel_rfl, ?_⟩; (conv => whnf))); refine callF a2 ⟨.refl _, .refl _, trivial⟩ (by trivial) rfl ?_)
    conv => whnf
    first | refine callF b2 ⟨.refl _, trivial⟩ (by trivial) rfl ?_ | ((repeat (refine ⟨by kernel_rfl, ?_⟩; (conv => whnf))); refine callF b2 ⟨.refl _, trivial⟩ (by trivial) rfl ?_)
    conv => whnf
    first | refine callF d1 ⟨.refl _, .refl _, trivial⟩ (by trivial) rfl ?_ | ((repeat (refine ⟨by kernel_rfl, ?_⟩; (conv => whnf))); refine callF d1 ⟨.refl _, .refl _, trivial⟩ (by trivial) rfl ?_)
    conv => whnf
    first | refine callF s1 ⟨.refl _, .refl _, trivial⟩ (by trivial) rfl ?_ | ((repeat (refine ⟨by kernel_rfl, ?_⟩; (conv => whnf))); refine callF s1 ⟨.refl _, .refl _, trivial⟩ (by trivial) rfl ?_)
    conv => whnf
    first | refine callF d2 ⟨.refl _, .refl _, trivial⟩ (by trivial) rfl ?_ | ((repeat (refine ⟨by kernel_rfl, ?_⟩; (conv => whnf))); refine callF d2 ⟨.refl _, .refl _, trivial⟩ (by trivial) rfl ?_)
    conv => whnf
    first | refine callF c1 ⟨.refl _, .refl _, trivial⟩ (by trivial) rfl ?_ | ((repeat (refine ⟨by kernel_rfl, ?_⟩; (conv => whnf))); refine callF c1 ⟨.refl _, .refl _, trivial⟩ (by trivial) rfl ?_)
    conv => whnf
    (repeat (refine ⟨by kernel_rfl, ?_⟩; (conv => whnf)))
    refine ⟨(by (try simp only [true_and, and_true, Nat.sub_zero, Nat.zero_add, Int.toNat_natCast]) <;> omega), ?_⟩
    exact .refl _
  · rw [if_neg h]
    rw [icmp, if_neg h] at c1
    refine acall_rule env [0, 1, 2, 3, 4, 5, 6, 7, 8, 9, 12, 42] Tryz.func74 rfl rfl rfl rfl ?_
    conv => whnf
    first | refine callF a1 ⟨.refl _, .refl _, trivial⟩ (by trivial) rfl ?_ | ((repeat (refine ⟨by kernel_rfl, ?_⟩; (conv => whnf))); refine callF a1 ⟨.refl _, .refl _, trivial⟩ (by trivial) rfl ?_)
    conv => whnf
    first | refine callF b1 ⟨.refl _, trivial⟩ (by trivial) rfl ?_ | ((repeat (refine ⟨by kernel_rfl, ?_⟩; (conv => whnf))); refine callF b1 ⟨.refl _, trivial⟩ (by trivial) rfl ?_)
    conv => whnf
    first | refine callF a2 ⟨.refl _, .refl _, trivial⟩ (by trivial) rfl ?_ | ((repeat (refine ⟨by kernel_rfl, ?_⟩; (conv => whnf))); refine callF a2 ⟨.refl _, .refl _, trivial⟩ (by trivial) rfl ?_)
    conv => whnf
    first | refine callF b2 ⟨.refl _, trivial⟩ (by trivial) rfl ?_ | ((repeat (refine ⟨by kernel_rfl, ?_⟩; (conv => whnf))); refine callF b2 ⟨.refl _, trivial⟩ (by trivial) rfl ?_)
    conv => whnf
    first | refine callF d1 ⟨.refl _, .refl _, trivial⟩ (by trivial) rfl ?_ | ((repeat (refine ⟨by kernel_rfl, ?_⟩; (conv => whnf))); refine callF d1 ⟨.refl _, .refl _, trivial⟩ (by trivial) rfl ?_)
    conv => whnf
    first | refine callF s1 ⟨.refl _, .refl _, trivial⟩ (by trivial) rfl ?_ | ((repeat (refine ⟨by kernel_rfl, ?_⟩; (conv => whnf))); refine callF s1 ⟨.refl _, .refl _, trivial⟩ (by trivial) rfl ?_)
    conv => whnf
    first | refine callF d2 ⟨.refl _, .refl _, trivial⟩ (by trivial) rfl ?_ | ((repeat (refine ⟨by kernel_rfl, ?_⟩; (conv => whnf))); refine callF d2 ⟨.refl _, .refl _, trivial⟩ (by trivial) rfl ?_)
    conv => whnf
    first | refine callF c1 ⟨.refl _, .refl _, trivial⟩ (by trivial) rfl ?_ | ((repeat (refine ⟨by kernel_rfl, ?_⟩; (conv => whnf))); refine callF c1 ⟨.refl _, .refl _, trivial⟩ (by trivial) rfl ?_)
    conv => whnf
    refine splF (by simp only [decide_eq_true_eq, decide_eq_false_iff_not, Bool.not_eq_true', Bool.not_eq_false', gt_iff_lt, ge_iff_le] <;> omega) ?_
    conv => whnf
    (repeat (refine ⟨by kernel_rfl, ?_⟩; (conv => whnf)))
    refine ⟨(by (try simp only [true_and, and_true, Nat.sub_zero, Nat.zero_add, Int.toNat_natCast]) <;> omega), ?_⟩
    exact .refl _
end Go.Abs

/- Short rationals: neighbors, Below, Above. -/
set_option autoImplicit false
set_option maxHeartbeats 4000000
set_option maxRecDepth 10000
set_option linter.unusedVariables false
set_option linter.unusedSimpArgs false
namespace Go.Abs
open Go Go.Proofs

theorem Nb.Ok.sz0 {s : Nb} {xp xq M : Int} (h : s.Ok xp xq M) (hx : 1 ≤ xq) :
    (s.lp.natAbs : Int) ≤ xp.natAbs * M * M + 1 ∧ (s.hp.natAbs : Int) ≤ xp.natAbs * M * M + 1 := by
  obtain ⟨l1, h1, lm, hm, a0, b0, det⟩ := h
  unfold Nb.a at a0
  unfold Nb.b at b0
  obtain ⟨lp, lq, hp, hq⟩ := s
  simp only at *
  obtain ⟨X, hX⟩ : ∃ X : Int, (xp.natAbs : Int) = X := ⟨_, rfl⟩
  rw [hX]
  have x1 : xp ≤ X := by omega
  have x2 : -X ≤ xp := by omega
  have x0 : 0 ≤ X := by omega
  have p1 : X * lq ≤ X * M := Int.mul_le_mul_of_nonneg_left lm x0
  have p2 : X * hq ≤ X * M := Int.mul_le_mul_of_nonneg_left hm x0
  have p3 : xp * lq ≤ X * lq := Int.mul_le_mul_of_nonneg_right x1 (by omega)
  have p4 : -X * hq ≤ xp * hq := Int.mul_le_mul_of_nonneg_right x2 (by omega)
  rw [Int.neg_mul] at p4
  have p0 : 0 ≤ X * M := Int.mul_nonneg x0 (by omega)
  generalize X * M = P at *
  have pm : P ≤ P * M := le_mul_one p0 (by omega)
  have L1 : 0 ≤ lp → lp ≤ P := fun h => by have := le_mul_one (q := xq) h hx; omega
  have H1 : hp ≤ 0 → -hp ≤ P := fun h => by
    have := le_mul_one (k := -hp) (q := xq) (by omega) hx
    rw [Int.neg_mul] at this; omega
  have L2 : lp < 0 → -lp ≤ P * M + 1 := fun h => by
    have g1 := le_mul_one (k := -lp) (q := hq) (by omega) h1
    rw [Int.neg_mul] at g1
    rcases Int.lt_or_le 0 hp with g | g
    · have := Int.mul_nonneg (show 0 ≤ hp by omega) (show 0 ≤ lq by omega)
      omega
    · have g2 : -hp * lq ≤ P * lq := Int.mul_le_mul_of_nonneg_right (H1 g) (by omega)
      have g3 : P * lq ≤ P * M := Int.mul_le_mul_of_nonneg_left lm p0
      rw [Int.neg_mul] at g2; omega
  have H2 : 0 < hp → hp ≤ P * M + 1 := fun h => by
    have g1 := le_mul_one (k := hp) (q := lq) (by omega) l1
    rcases Int.lt_or_le lp 0 with g | g
    · have := Int.mul_nonneg (show 0 ≤ -lp by omega) (show 0 ≤ hq by omega)
      rw [Int.neg_mul] at this; omega
    · have g2 : lp * hq ≤ P * hq := Int.mul_le_mul_of_nonneg_right (L1 g) (by omega)
      have g3 : P * hq ≤ P * M := Int.mul_le_mul_of_nonneg_left hm p0
      omega
  generalize P * M = PM at *
  constructor
  · rcases Int.lt_or_le lp 0 with g | g
    · have := L2 g; omega
    · have := L1 g; omega
  · rcases Int.lt_or_le 0 hp with g | g
    · have := H2 g; omega
    · have := H1 g; omega
theorem Nb.Ok.sz {s : Nb} {xp xq M : Int} (h : s.Ok xp xq M) (hx : 1 ≤ xq) {t : Nat} (zx : isz xp ≤ t) (zm : isz M ≤ t) (ht : 1 ≤ t) :
    isz s.lp ≤ 3 * t + 1 ∧ isz s.lq ≤ t ∧ isz s.hp ≤ 3 * t + 1 ∧ isz s.hq ≤ t := by
  obtain ⟨e1, e2⟩ := h.sz0 hx
  have l1 := h.l1
  have h1 := h.h1
  have lm := h.lm
  have hm := h.hm
  have e3 : ((xp.natAbs * M.natAbs * M.natAbs + 1 : Nat) : Int) = xp.natAbs * M * M + 1 := by
    rw [Int.natCast_add, Int.natCast_mul, Int.natCast_mul, Int.natAbs_of_nonneg (show 0 ≤ M by omega)]; rfl
  rw [← e3] at e1 e2
  have z : size (xp.natAbs * M.natAbs * M.natAbs + 1) ≤ 3 * t + 1 := by
    have := size_add2 (size_mul2 (size_mul2 zx zm) zm) (show size 1 ≤ 1 by decide)
    omega
  exact ⟨Nat.le_trans (size_mono (Int.ofNat_le.1 e1)) z, Nat.le_trans (size_mono (by omega)) zm, Nat.le_trans (size_mono (Int.ofNat_le.1 e2)) z, Nat.le_trans (size_mono (by omega)) zm⟩
theorem nbK_sz {A B M q1 q2 : Int} (hA : 0 < A) (hB : 0 < B) (h1 : q1 ≤ M) (h0 : 1 ≤ q1) (h2 : 0 < q2) {t : Nat} (zm : isz M ≤ t) : isz (nbK A B M q1 q2) ≤ t := by
  obtain ⟨k0, _, k2, _⟩ := nbK_spec hA hB h1 h2
  have := le_mul_one (q := q2) k0 (by omega)
  exact Nat.le_trans (size_mono (by omega)) zm

/-- the cells of a fraction -/
def frL (p q : Int) : List AV := [.f (.bool (decide (p < 0))), nat p.natAbs, .f (.bool (decide (q < 0))), nat q.natAbs]
def bp2 (k : Nat) : Nat × AV := (k, .lptr k 1 2 0 0)
def bp4 (k : Nat) : Nat × AV := (k, .lptr k 1 4 0 0)
theorem neighbors_ok {x m : AV} {a : Rat} {M : Int} {s : Nat} (ha : IsR x a s) (hm : IsI m M s) (hs : s ≤ 1048576) (hM : 1 ≤ M) :
    ACall Tryz.prog 42 [x, m] (.tup [rat (nbRes a M).1, rat (nbRes a M).2]) := by
  have za := ha.size
  have zn := rsz_num za
  have zd := rsz_den za
  have n1 := qNorm_ok ha (by omega)
  have zq : isz ((a.den : Nat) : Int) ≤ s := by rw [isz_nat]; exact zd
  have zM := hm.size
  have c1 := iCompare_ok (isI_int _ zq) hm (by omega) (by omega)
  rw [int_nonneg] at c1
  have n2 := qNorm_ok (isR_rat a za) (by omega)
  have f1 := qFloor_ok (isR_rat a za) (by omega)
  have one := iFromInt_ok 1 (by decide)
  have zf := rsz_floor a za
  have ad := iAdd_ok (isI_int _ zf) (isI_int 1 (s := 1) (by decide)) (by omega) (by omega)
  obtain ⟨na, ga, la, ga', la', _, hga, hga', hna, hna', h1⟩ := ha
  generalize mkRat (ival na (nval ga la)) (nval ga' la') = a at *
  have hm0 := hm
  obtain ⟨nm, gm, lm, _, hgm, hlm⟩ := hm
  generalize ival nm (nval gm lm) = M at *
  unfold nbRes
  by_cases h : (a.den : Int) ≤ M
  · rw [if_pos h]
    rw [icmp] at c1
    refine acall_rule env [0, 1, 2, 3, 4, 5, 6, 7, 8, 9, 10, 11, 12, 13, 15, 29, 69] Tryz.func42 rfl rfl rfl rfl ?_
    conv => whnf
    first | refine callF n1 ⟨.refl _, trivial⟩ (by trivial) rfl ?_ | ((repeat (refine ⟨by kernel_rfl, ?_⟩; (conv => whnf))); refine callF n1 ⟨.refl _, trivial⟩ (by trivial) rfl ?_)
    conv => whnf
    first | refine callF c1 ⟨.refl _, .refl _, trivial⟩ (by trivial) rfl ?_ | ((repeat (refine ⟨by kernel_rfl, ?_⟩; (conv => whnf))); refine callF c1 ⟨.refl _, .refl _, trivial⟩ (by trivial) rfl ?_)
    conv => whnf
    refine splT (by simp only [decide_eq_true_eq, decide_eq_false_iff_not, Bool.not_eq_true', Bool.not_eq_false', gt_iff_lt, ge_iff_le] <;> omega) ?_
    conv => whnf
    first | refine callF n2 ⟨.refl _, trivial⟩ (by trivial) rfl ?_ | ((repeat (refine ⟨by kernel_rfl, ?_⟩; (conv => whnf))); refine callF n2 ⟨.refl _, trivial⟩ (by trivial) rfl ?_)
    conv => whnf
    (repeat (refine ⟨by kernel_rfl, ?_⟩; (conv => whnf)))
    refine ⟨(by (try simp only [true_and, and_true, Nat.sub_zero, Nat.zero_add, Int.toNat_natCast]) <;> omega), ?_⟩
    exact .refl _
  · rw [if_neg h]
    rw [icmp, if_neg (by omega), if_neg (by omega)] at c1
    have hmx : M < (a.den : Int) := by omega
    have hxq : (1 : Int) ≤ a.den := by omega
    have hcop : Int.gcd a.num a.den = 1 := a.reduced
    have ok0 := nb0_ok hM hmx
    refine acall_rule env [0, 1, 2, 3, 4, 5, 6, 7, 8, 9, 10, 11, 12, 13, 15, 29, 69] Tryz.func42 rfl rfl rfl rfl ?_
    conv => whnf
    first | refine callF n1 ⟨.refl _, trivial⟩ (by trivial) rfl ?_ | ((repeat (refine ⟨by kernel_rfl, ?_⟩; (conv => whnf))); refine callF n1 ⟨.refl _, trivial⟩ (by trivial) rfl ?_)
    conv => whnf
    first | refine callF c1 ⟨.refl _, .refl _, trivial⟩ (by trivial) rfl ?_ | ((repeat (refine ⟨by kernel_rfl, ?_⟩; (conv => whnf))); refine callF c1 ⟨.refl _, .refl _, trivial⟩ (by trivial) rfl ?_)
    conv => whnf
    first | refine callF one ⟨.refl _, trivial⟩ (by trivial) rfl ?_ | ((repeat (refine ⟨by kernel_rfl, ?_⟩; (conv => whnf))); refine callF one ⟨.refl _, trivial⟩ (by trivial) rfl ?_)
    conv => whnf
    first | refine callF f1 ⟨.refl _, trivial⟩ (by trivial) rfl ?_ | ((repeat (refine ⟨by kernel_rfl, ?_⟩; (conv => whnf))); refine callF f1 ⟨.refl _, trivial⟩ (by trivial) rfl ?_)
    conv => whnf
    first | refine callF ad ⟨.refl _, .refl _, trivial⟩ (by trivial) rfl ?_ | ((repeat (refine ⟨by kernel_rfl, ?_⟩; (conv => whnf))); refine callF ad ⟨.refl _, .refl _, trivial⟩ (by trivial) rfl ?_)
    conv => whnf
    refine ⟨by kernel_rfl, ?_⟩
    conv => whnf
    refine loop_mod [3, 4, 5, 6, 9, 10] [3, 4, 5, 6, 9, 10] [4, 5, 9, 10] [4, 5, 9, 10]
      (fun μ fr hp => ∃ st : Nb, st.Ok a.num a.den M ∧ 2 * M - st.lq - st.hq ≤ μ ∧ nbF (2 * M).toNat (nb0 a) a.num a.den M = nbF μ st a.num a.den M ∧
        fr = [bp2 3, bp3 4, bp3 5, bp4 6, bp4 9, bp4 10] ∧ hp = [bx3 3 [.f (.bool nm), raw gm lm], bx3 4 zR, bx3 5 zR, bx3 6 [.f (.bool (decide (a.num < 0))), nat a.num.natAbs, .f (.bool false), nat a.den], bx3 9 (frL st.lp st.lq), bx3 10 (frL st.hp st.hq)])
      (fun e fr hp => e = .exit 0 ∧ ∃ st : Nb, st.Ok a.num a.den M ∧ nbF (2 * M).toNat (nb0 a) a.num a.den M = st ∧
        fr = [bp3 4, bp3 5, bp4 9, bp4 10] ∧ hp = [bx3 4 zR, bx3 5 zR, bx3 9 (frL st.lp st.lq), bx3 10 (frL st.hp st.hq)])
      ⟨(2 * M).toNat, _, _, _, rfl, .refl _, nb0 a, ok0, by have := ok0.l1; have := ok0.h1; omega, rfl, rfl, rfl⟩ ?_ ?_
    · rintro _ _ _ ⟨rfl, st, ok, he, rfl, rfl⟩
      rw [he]
      obtain ⟨z1, z2, z3, z4⟩ := ok.sz hxq zn zM h1
      have w1 := New_ok (isI_int _ z1) (isI_int _ z2) (by omega) (by omega)
      have w2 := New_ok (isI_int _ z3) (isI_int _ z4) (by omega) (by omega)
      have l1 := ok.l1
      have h1 := ok.h1
      unfold newRes at w1 w2
      rw [if_neg (by omega)] at w1 w2
      conv => whnf
      first | refine callF w1 ⟨.refl _, .refl _, trivial⟩ (by trivial) rfl ?_ | ((repeat (refine ⟨by kernel_rfl, ?_⟩; (conv => whnf))); refine callF w1 ⟨.refl _, .refl _, trivial⟩ (by trivial) rfl ?_)
      conv => whnf
      first | refine callF w2 ⟨.refl _, .refl _, trivial⟩ (by trivial) rfl ?_ | ((repeat (refine ⟨by kernel_rfl, ?_⟩; (conv => whnf))); refine callF w2 ⟨.refl _, .refl _, trivial⟩ (by trivial) rfl ?_)
      conv => whnf
      refine ⟨by kernel_rfl, ?_⟩
      conv => whnf
      (repeat (refine ⟨by kernel_rfl, ?_⟩; (conv => whnf)))
      refine ⟨(by (try simp only [true_and, and_true, Nat.sub_zero, Nat.zero_add, Int.toNat_natCast]) <;> omega), ?_⟩
      exact .refl _
    rintro μ _ _ ⟨st, ok, hμ, he, rfl, rfl⟩
    obtain ⟨z1, z2, z3, z4⟩ := ok.sz hxq zn zM h1
    have a0 := ok.a0
    have b0 := ok.b0
    have l1 := ok.l1
    have h1' := ok.h1
    have lm1 := ok.lm
    have hm1 := ok.hm
    have zk : isz (st.k1 a.num a.den M) ≤ s := nbK_sz a0 b0 lm1 l1 (by omega) zM
    have s1 := steps_ok (p := st.lp) (q := st.lq) (p' := st.hp) (q' := st.hq) (xp := a.num) (xq := a.den) (B := 3 * s + 1) z1 (by omega) z3 (by omega) (by omega) (by omega) (hm0.mono (by omega)) (by omega) (show st.hp * a.den - a.num * st.hq ≠ 0 by unfold Nb.b at b0; omega) (show st.hq ≠ 0 by omega)
    rw [show ((a.num * st.lq - st.lp * a.den).natAbs : Int) = st.a a.num a.den by unfold Nb.a at *; omega, show ((st.hp * a.den - a.num * st.hq).natAbs : Int) = st.b a.num a.den by unfold Nb.b at *; omega] at s1
    change ACall Tryz.prog _ _ (int (st.k1 a.num a.den M)) at s1
    have p1 := plus_ok (p := st.lp) (q := st.lq) (p' := st.hp) (q' := st.hq) (B := 3 * s + 1) z1 (by omega) z3 (by omega) (show isz (st.k1 a.num a.den M) ≤ _ by omega) (by omega)
    change ACall Tryz.prog _ _ (frc (st.mid a.num a.den M).lp (st.mid a.num a.den M).lq) at p1
    have okm := ok.left hcop hmx
    change (st.mid a.num a.den M).Ok _ _ _ at okm
    have hmid : (st.mid a.num a.den M).hp = st.hp ∧ (st.mid a.num a.den M).hq = st.hq := ⟨rfl, rfl⟩
    obtain ⟨y1, y2, y3, y4⟩ := okm.sz hxq zn zM h1
    have a1 := okm.a0
    have b1 := okm.b0
    have l2 := okm.l1
    have lm2 := okm.lm
    have zj : isz (st.k2 a.num a.den M) ≤ s := nbK_sz b1 a1 hm1 h1' (by omega) zM
    have hk2 : nbK ((st.mid a.num a.den M).b a.num a.den) ((st.mid a.num a.den M).a a.num a.den) M st.hq (st.mid a.num a.den M).lq = st.k2 a.num a.den M := rfl
    have hnx : (st.hp + st.k2 a.num a.den M * (st.mid a.num a.den M).lp) = (st.next a.num a.den M).hp ∧ (st.hq + st.k2 a.num a.den M * (st.mid a.num a.den M).lq) = (st.next a.num a.den M).hq ∧ (st.mid a.num a.den M).lp = (st.next a.num a.den M).lp ∧ (st.mid a.num a.den M).lq = (st.next a.num a.den M).lq := ⟨rfl, rfl, rfl, rfl⟩
    have eA : (st.mid a.num a.den M).a a.num a.den = a.num * (st.mid a.num a.den M).lq - (st.mid a.num a.den M).lp * a.den := rfl
    have eB : (st.mid a.num a.den M).b a.num a.den = st.hp * a.den - a.num * st.hq := rfl
    have okn := ok.next hcop hmx
    have hdone : st.done a.num a.den M ↔ st.k1 a.num a.den M = 0 ∧ st.k2 a.num a.den M = 0 := Iff.rfl
    have hgrow := fun hd => ok.grow hcop hmx hd
    have hnF := fun hd f => nbF_next (s := st) (xp := a.num) (xq := a.den) (most := M) hd f
    have hdF := fun hd f => nbF_done (s := st) (xp := a.num) (xq := a.den) (most := M) hd f
    have hsame : st.done a.num a.den M → st.next a.num a.den M = st := by
      intro ⟨q1, q2⟩
      have hm2 : st.mid a.num a.den M = st := by
        unfold Nb.mid; unfold Nb.k1 at q1; rw [q1]; unfold Nb.left; simp
      unfold Nb.next; rw [q2, hm2]; unfold Nb.right; simp
    have s2 := steps_ok (p := st.hp) (q := st.hq) (p' := (st.mid a.num a.den M).lp) (q' := (st.mid a.num a.den M).lq) (xp := a.num) (xq := a.den) (B := 3 * s + 1) z3 (by omega) y1 (by omega) (show isz a.num ≤ _ by omega) (show isz (a.den : Int) ≤ _ by omega) (hm0.mono (by omega)) (by omega) (by omega) (by omega)
    have p2 := plus_ok (p := st.hp) (q := st.hq) (p' := (st.mid a.num a.den M).lp) (q' := (st.mid a.num a.den M).lq) (k := st.k2 a.num a.den M) (B := 3 * s + 1) z3 (by omega) y1 (by omega) (by omega) (by omega)
    rw [show ((a.num * st.hq - st.hp * a.den).natAbs : Int) = (st.mid a.num a.den M).b a.num a.den by omega, show (((st.mid a.num a.den M).lp * a.den - a.num * (st.mid a.num a.den M).lq).natAbs : Int) = (st.mid a.num a.den M).a a.num a.den by omega, hk2] at s2
    rw [hnx.1, hnx.2.1, hnx.2.2.1, hnx.2.2.2] at p2
    rw [hnx.2.2.1, hnx.2.2.2] at s2 p1
    have g1 := iSign_ok (isI_int _ zk) (by omega)
    have g2 := iSign_ok (isI_int _ zj) (by omega)
    clear hmid hnx eA eB hk2
    generalize st.k1 a.num a.den M = k at *
    generalize st.k2 a.num a.den M = j at *
    generalize st.next a.num a.den M = nx at *
    conv => whnf
    refine callF s1 ⟨.refl _, .refl _, .agg ⟨.refl _, .refl _, .bool_of (by simp), .refl _, trivial⟩, .refl _, trivial⟩ (by trivial) rfl ?_
    conv => whnf
    first | refine callF p1 ⟨.refl _, .refl _, .refl _, trivial⟩ (by trivial) rfl ?_ | ((repeat (refine ⟨by kernel_rfl, ?_⟩; (conv => whnf))); refine callF p1 ⟨.refl _, .refl _, .refl _, trivial⟩ (by trivial) rfl ?_)
    conv => whnf
    refine callF s2 ⟨.refl _, .refl _, .agg ⟨.refl _, .refl _, .bool_of (by simp), .refl _, trivial⟩, .refl _, trivial⟩ (by trivial) rfl ?_
    conv => whnf
    first | refine callF p2 ⟨.refl _, .refl _, .refl _, trivial⟩ (by trivial) rfl ?_ | ((repeat (refine ⟨by kernel_rfl, ?_⟩; (conv => whnf))); refine callF p2 ⟨.refl _, .refl _, .refl _, trivial⟩ (by trivial) rfl ?_)
    conv => whnf
    first | refine callF g1 ⟨.refl _, trivial⟩ (by trivial) rfl ?_ | ((repeat (refine ⟨by kernel_rfl, ?_⟩; (conv => whnf))); refine callF g1 ⟨.refl _, trivial⟩ (by trivial) rfl ?_)
    conv => whnf
    have hgo : ¬ st.done a.num a.den M → ∃ μ' : Nat, μ = μ' + 1 ∧ 2 * M - nx.lq - nx.hq ≤ μ' ∧ nbF (2 * M).toNat (nb0 a) a.num a.den M = nbF μ' nx a.num a.den M := by
      intro hd
      have q1 := hgrow hd
      have q2 := okn.lm
      have q3 := okn.hm
      obtain ⟨μ', rfl⟩ : ∃ μ' : Nat, μ = μ' + 1 := ⟨μ - 1, by omega⟩
      exact ⟨μ', rfl, by omega, by rw [he, hnF hd]⟩
    by_cases hk0 : k = 0
    · refine splT (decide_eq_true (sgn_iff.2 hk0)) ?_
      conv => whnf
      first | refine callF g2 ⟨.refl _, trivial⟩ (by trivial) rfl ?_ | ((repeat (refine ⟨by kernel_rfl, ?_⟩; (conv => whnf))); refine callF g2 ⟨.refl _, trivial⟩ (by trivial) rfl ?_)
      conv => whnf
      by_cases hj0 : j = 0
      · have hd := hdone.2 ⟨hk0, hj0⟩
        refine splT (decide_eq_true (sgn_iff.2 hj0)) ?_
        conv => whnf
        exact ⟨_, _, _, rfl, .refl _, rfl, nx, okn, by rw [he, hdF hd, hsame hd], rfl, rfl⟩
      · obtain ⟨μ', rfl, q1, q2⟩ := hgo (fun hd => hj0 (hdone.1 hd).2)
        refine splF (decide_eq_false (fun h => hj0 (sgn_iff.1 h))) ?_
        conv => whnf
        exact ⟨μ', by omega, _, _, _, rfl, .refl _, nx, okn, q1, q2, rfl, rfl⟩
    · obtain ⟨μ', rfl, q1, q2⟩ := hgo (fun hd => hk0 (hdone.1 hd).1)
      refine splF (decide_eq_false (fun h => hk0 (sgn_iff.1 h))) ?_
      conv => whnf
      exact ⟨μ', by omega, _, _, _, rfl, .refl _, nx, okn, q1, q2, rfl, rfl⟩

/-- what Below and Above answer -/
noncomputable def belowRes (a : Rat) (M : Int) : AV := if M < 1 then .tup [rat0, .f (.bool false)] else .tup [rat (nbRes a M).1, .f (.bool true)]
noncomputable def aboveRes (a : Rat) (M : Int) : AV := if M < 1 then .tup [rat0, .f (.bool false)] else .tup [rat (nbRes a M).2, .f (.bool true)]
theorem Below_ok {x m : AV} {a : Rat} {M : Int} {s : Nat} (ha : IsR x a s) (hm : IsI m M s) (hs : s ≤ 1048576) :
    ACall Tryz.prog 12 [x, m] (belowRes a M) := by
  have g1 := iSign_ok hm (by omega)
  have n1 := fun h => neighbors_ok ha hm hs h
  obtain ⟨na, ga, la, ga', la', _, hga, hga', hna, hna', h1⟩ := ha
  generalize mkRat (ival na (nval ga la)) (nval ga' la') = a at *
  obtain ⟨nm, gm, lm, _, hgm, hlm⟩ := hm
  generalize ival nm (nval gm lm) = M at *
  unfold belowRes
  by_cases h : M < 1
  · rw [if_pos h]
    refine acall_rule env [0, 1, 2, 3, 4, 5, 6, 10] Tryz.func12 rfl rfl rfl rfl ?_
    conv => whnf
    first | refine callF g1 ⟨.refl _, trivial⟩ (by trivial) rfl ?_ | ((repeat (refine ⟨by kernel_rfl, ?_⟩; (conv => whnf))); refine callF g1 ⟨.refl _, trivial⟩ (by trivial) rfl ?_)
    conv => whnf
    refine splT (decide_eq_true (by unfold sgn; split <;> (try split) <;> omega)) ?_
    conv => whnf
    refine ⟨(by (try simp only [true_and, and_true, Nat.sub_zero, Nat.zero_add, Int.toNat_natCast]) <;> omega), ?_⟩
    exact .tup ⟨.rat0, .refl _, trivial⟩
  · rw [if_neg h]
    replace n1 := n1 (by omega)
    refine acall_rule env [0, 1, 2, 3, 4, 5, 6, 10] Tryz.func12 rfl rfl rfl rfl ?_
    conv => whnf
    first | refine callF g1 ⟨.refl _, trivial⟩ (by trivial) rfl ?_ | ((repeat (refine ⟨by kernel_rfl, ?_⟩; (conv => whnf))); refine callF g1 ⟨.refl _, trivial⟩ (by trivial) rfl ?_)
    conv => whnf
    refine splF (decide_eq_false (by unfold sgn; split <;> (try split) <;> omega)) ?_
    conv => whnf
    first | refine callF n1 ⟨.refl _, .refl _, trivial⟩ (by trivial) rfl ?_ | ((repeat (refine ⟨by kernel_rfl, ?_⟩; (conv => whnf))); refine callF n1 ⟨.refl _, .refl _, trivial⟩ (by trivial) rfl ?_)
    conv => whnf
    (repeat (refine ⟨by kernel_rfl, ?_⟩; (conv => whnf)))
    refine ⟨(by (try simp only [true_and, and_true, Nat.sub_zero, Nat.zero_add, Int.toNat_natCast]) <;> omega), ?_⟩
    exact .refl _
theorem Above_ok {x m : AV} {a : Rat} {M : Int} {s : Nat} (ha : IsR x a s) (hm : IsI m M s) (hs : s ≤ 1048576) :
    ACall Tryz.prog 15 [x, m] (aboveRes a M) := by
  have g1 := iSign_ok hm (by omega)
  have n1 := fun h => neighbors_ok ha hm hs h
  obtain ⟨na, ga, la, ga', la', _, hga, hga', hna, hna', h1⟩ := ha
  generalize mkRat (ival na (nval ga la)) (nval ga' la') = a at *
  obtain ⟨nm, gm, lm, _, hgm, hlm⟩ := hm
  generalize ival nm (nval gm lm) = M at *
  unfold aboveRes
  by_cases h : M < 1
  · rw [if_pos h]
    refine acall_rule env [0, 1, 2, 3, 4, 5, 7, 10] Tryz.func15 rfl rfl rfl rfl ?_
    conv => whnf
    first | refine callF g1 ⟨.refl _, trivial⟩ (by trivial) rfl ?_ | ((repeat (refine ⟨by kernel_rfl, ?_⟩; (conv => whnf))); refine callF g1 ⟨.refl _, trivial⟩ (by trivial) rfl ?_)
    conv => whnf
    refine splT (decide_eq_true (by unfold sgn; split <;> (try split) <;> omega)) ?_
    conv => whnf
    refine ⟨(by (try simp only [true_and, and_true, Nat.sub_zero, Nat.zero_add, Int.toNat_natCast]) <;> omega), ?_⟩
    exact .tup ⟨.rat0, .refl _, trivial⟩
  · rw [if_neg h]
    replace n1 := n1 (by omega)
    refine acall_rule env [0, 1, 2, 3, 4, 5, 7, 10] Tryz.func15 rfl rfl rfl rfl ?_
    conv => whnf
    first | refine callF g1 ⟨.refl _, trivial⟩ (by trivial) rfl ?_ | ((repeat (refine ⟨by kernel_rfl, ?_⟩; (conv => whnf))); refine callF g1 ⟨.refl _, trivial⟩ (by trivial) rfl ?_)
    conv => whnf
    refine splF (decide_eq_false (by unfold sgn; split <;> (try split) <;> omega)) ?_
    conv => whnf
    first | refine callF n1 ⟨.refl _, .refl _, trivial⟩ (by trivial) rfl ?_ | ((repeat (refine ⟨by kernel_rfl, ?_⟩; (conv => whnf))); refine callF n1 ⟨.refl _, .refl _, trivial⟩ (by trivial) rfl ?_)
    conv => whnf
    (repeat (refine ⟨by kernel_rfl, ?_⟩; (conv => whnf)))
    refine ⟨(by (try simp only [true_and, and_true, Nat.sub_zero, Nat.zero_add, Int.toNat_natCast]) <;> omega), ?_⟩
    exact .refl _
end Go.Abs

/- Short rationals: Simplest. -/
set_option autoImplicit false
set_option maxHeartbeats 4000000
set_option maxRecDepth 10000
set_option linter.unusedVariables false
set_option linter.unusedSimpArgs false
namespace Go.Abs
open Go Go.Proofs

theorem cf_len_s (a : Rat) {s : Nat} (h : rsz a ≤ s) : (cf a).length ≤ 64 * s := by
  have h1 : a.den < 2 ^ (32 * s) := by
    rw [← pw_two]; exact Nat.lt_of_lt_of_le (lt_pw_size _) (pw_le (rsz_den h))
  have := cf_len _ a h1
  omega
theorem lsz_cf_s (a : Rat) {s : Nat} (h : rsz a ≤ s) : lsz (cf a) ≤ 200 * s + 2 := by
  have h1 := cf_len_s a h
  have h2 := lsz_cf a
  have h3 := rsz_floor a h
  have h4 := rsz_den h
  omega
theorem ofCf_sz : ∀ {l : List Int} {v : Rat}, ofCf l = some v → rsz v ≤ lsz l
  | [], v, h => by cases h
  | [x], v, h => by
    cases h
    rw [lsz_cons]
    exact Nat.le_trans (rsz_int x (s := isz x + 1) (by omega) (by omega)) (by omega)
  | x :: y :: l, v, h => by
    rw [ofCf_cons] at h
    split at h
    · rename_i w hw
      split at h
      · cases h
      · cases h
        have := ofCf_sz hw
        rw [lsz_cons]
        have h2 := rsz_int_add (x := x) (Nat.le_refl _) this
        omega
    · cases h
theorem rsz_ceil (a : Rat) {s : Nat} (h : rsz a ≤ s) : isz a.ceil ≤ s := by
  rw [Rat.ceil_eq_neg_floor_neg, isz_neg]
  exact rsz_floor (-a) (by rw [rsz_neg]; exact h)
theorem All2.fle_intC (z : Int) : All2 FVle (intC z) (intC z) := ⟨.refl _, .refl _, trivial⟩
/-- an element more -/
theorem more_ints {pre : List Int} {x : Int} {j : Nat} (hj : j < pre.length + 1) {l : List FV} (hl : l = intC x) :
    All2 FVle (if j < pre.length then intC (pre.getD (0 + j) 0) else List.take 2 (List.drop ((0 + (j - pre.length)) * 2) l)) (intC ((pre ++ [x]).getD j 0)) := by
  subst hl
  rw [Nat.zero_add]
  by_cases hj2 : j < pre.length
  · rw [if_pos hj2]
    simp only [List.getD_eq_getElem?_getD]
    rw [List.getElem?_append_left hj2]
    exact .fle_intC _
  · obtain rfl : j = pre.length := by omega
    rw [if_neg hj2, Nat.sub_self]
    simp only [List.getD_eq_getElem?_getD]
    rw [List.getElem?_append_right (Nat.le_refl _), Nat.sub_self]
    exact .fle_intC _
theorem first_ints {x : Int} {j : Nat} (hj : j < 1) {l : List FV} (hl : l = intC x) : All2 FVle (List.take 2 (List.drop ((0 + j) * 2) l)) (intC ([x].getD j 0)) := by
  subst hl
  obtain rfl : j = 0 := by omega
  exact .fle_intC _

theorem more_ints0 {pre : List Int} {x : Int} {j : Nat} (hj : j < pre.length + 1) {l : List FV} (hl : l = intC x) :
    All2 FVle (if j < pre.length then intC (pre.getD j 0) else List.take 2 (List.drop ((j - pre.length) * 2) l)) (intC ((pre ++ [x]).getD j 0)) := by
  have := more_ints hj hl
  rw [Nat.zero_add, Nat.zero_add] at this; exact this
theorem first_ints0 {x : Int} {j : Nat} (hj : j < 1) {l : List FV} (hl : l = intC x) : All2 FVle (List.take 2 (List.drop (j * 2) l)) (intC ([x].getD j 0)) := by
  have := first_ints hj hl
  rw [Nat.zero_add] at this; exact this
theorem SimPos_ok {x y : AV} {lo hi : Rat} {s : Nat} (hx : IsR x lo s) (hy : IsR y hi s) (hs : s ≤ 1048576) (h0 : 0 < lo) (hl : lo ≤ hi) :
    ACall Tryz.prog 8 [x, y] (.tup [rat (sim lo hi), .f (.bool true)]) := by
  obtain ⟨m1, ⟨m2, _⟩, m3, _⟩ := simL_spec _ lo hi rfl h0 hl
  have m4 := lsz_cf_s lo hx.size
  have m5 := cf_len_s lo hx.size
  have c1 := qCompare_ok hx hy (by omega)
  have g1 := qSign_ok hx (by omega)
  have g2 := qSign_ok hy (by omega)
  rw [rcmp_gt h0] at g1
  rw [rcmp_gt (show 0 < hi by grind)] at g2
  have hc := rcmp_le.2 hl
  have fc := FromContinued_ok (simL lo hi) (by omega)
  rw [fcRes, m1] at fc
  have hq0 : ∃ xs ys, x = .agg xs ∧ y = .agg ys ∧ IsR (.agg xs) lo s ∧ IsR (.agg ys) hi s := by
    cases hx with | mk na ga la ga' la' _ a1 a2 a3 a4 a5 => cases hy with | mk nb gb lb gb' lb' _ b1 b2 b3 b4 b5 => exact ⟨_, _, rfl, rfl, .mk _ _ _ _ _ _ a1 a2 a3 a4 a5, .mk _ _ _ _ _ _ b1 b2 b3 b4 b5⟩
  have h1 : 1 ≤ s := by cases hx; assumption
  obtain ⟨na, ga, la, ga', la', _, hga, hga', hna, hna', _⟩ := hx
  obtain ⟨nb, gb, lb, gb', lb', _, hgb, hgb', hnb, hnb', _⟩ := hy
  obtain ⟨xs, ys, ex, ey, rx, ry⟩ := hq0
  cases ex; cases ey
  generalize mkRat (ival na (nval ga la)) (nval ga' la') = lo at *
  generalize mkRat (ival nb (nval gb lb)) (nval gb' lb') = hi at *
  refine acall_rule env [0, 1, 2, 3, 4, 5, 6, 8, 9, 10, 12, 13, 15, 17, 23, 33, 53] Tryz.func8 rfl rfl rfl rfl ?_
  conv => whnf
  first | refine callF c1 ⟨.refl _, .refl _, trivial⟩ (by trivial) rfl ?_ | ((repeat (refine ⟨by kernel_rfl, ?_⟩; (conv => whnf))); refine callF c1 ⟨.refl _, .refl _, trivial⟩ (by trivial) rfl ?_)
  conv => whnf
  refine splF (decide_eq_false (by omega)) ?_
  conv => whnf
  first | refine callF g1 ⟨.refl _, trivial⟩ (by trivial) rfl ?_ | ((repeat (refine ⟨by kernel_rfl, ?_⟩; (conv => whnf))); refine callF g1 ⟨.refl _, trivial⟩ (by trivial) rfl ?_)
  conv => whnf
  first | refine callF g2 ⟨.refl _, trivial⟩ (by trivial) rfl ?_ | ((repeat (refine ⟨by kernel_rfl, ?_⟩; (conv => whnf))); refine callF g2 ⟨.refl _, trivial⟩ (by trivial) rfl ?_)
  conv => whnf
  refine loop_modE
    (fun μ fr hp => ∃ (pre : List Int) (q r : Rat) (xs ys : List AV), simL lo hi = pre ++ simL q r ∧ IsR (.agg xs) q s ∧ IsR (.agg ys) r s ∧ 0 < q ∧ q ≤ r ∧ μ = (simL q r).length ∧
      (∃ na ga la ga' la', xs = [.f (.bool na), raw ga la, raw ga' la']) ∧ (∃ na ga la ga' la', ys = [.f (.bool na), raw ga la, raw ga' la']) ∧
      ((pre = [] ∧ fr = [bp3 2, bp3 3, bp3 4, (8, .f (.sl 2 (fun _ => [.bool false, .sl 1 (fun _ => [.int .u32 0]) 0 (some 0)]) 0 (some 0)))] ∧ hp = [bx3 2 xs, bx3 3 ys, bx3 4 zR]) ∨
       (pre ≠ [] ∧ fr = [bp3 2, bp3 3, bp3 4, (8, .lsl 68 1 2 0 pre.length none)] ∧ hp = [bx3 2 xs, bx3 3 ys, bx3 4 zR, (68, 1, .fa 2 pre.length (fun j => intC (pre.getD j 0)))])))
    (fun e fr hp => e = .ret ∧ fr = [bp3 4, (5, .f (.bool true))] ∧ hp = [bx3 4 (ratL (sim lo hi))])
    ⟨_, [2, 3, 4, 8], [2, 3, 4], _, _, _, rfl, .refl _, [], lo, hi, _, _, rfl, rx, ry, h0, hl, rfl, ⟨_, _, _, _, _, rfl⟩, ⟨_, _, _, _, _, rfl⟩, .inl ⟨rfl, rfl, rfl⟩⟩ ?_ ?_
  · rintro _ _ _ ⟨rfl, rfl, rfl⟩
    conv => whnf
    (repeat (refine ⟨by kernel_rfl, ?_⟩; (conv => whnf)))
    refine ⟨(by (try simp only [true_and, and_true, Nat.sub_zero, Nat.zero_add, Int.toNat_natCast]) <;> omega), ?_⟩
    exact .refl _
  rintro μ _ _ ⟨pre, q, r, xs, ys, hcf, hq, hr, hq0, hqr, rfl, ⟨na, ga, la, ga', la', rfl⟩, ⟨nb, gb, lb, gb', lb', rfl⟩, hsh⟩
  have zq := hq.size
  have zr := hr.size
  have e1 := qCeil_ok hq (by omega)
  have zc : isz q.ceil ≤ s := rsz_ceil q zq
  have w1 := whole_ok (isI_int q.ceil zc) (by omega)
  have c2 := qCompare_ok (isR_rat _ (rsz_int (s := s) _ (by omega) (by omega))) hr (by omega)
  have f1 := qFloor_ok hq (by omega)
  have zf := rsz_floor q zq
  have w2 := whole_ok (isI_int q.floor zf) (by omega)
  have hlp := congrArg List.length hcf
  rw [List.length_append] at hlp
  by_cases hend : ((q.ceil : Int) : Rat) ≤ r
  · have hd := rcmp_le.2 hend
    have es := simL_end hend
    rw [es] at hcf hlp
    simp only [List.length_cons, List.length_nil] at hlp
    rw [hcf] at fc
    rcases hsh with ⟨rfl, rfl, rfl⟩ | ⟨hpre, rfl, rfl⟩
    · rw [List.nil_append] at fc
      conv => whnf
      first | refine callF e1 ⟨.refl _, trivial⟩ (by trivial) rfl ?_ | ((repeat (refine ⟨by kernel_rfl, ?_⟩; (conv => whnf))); refine callF e1 ⟨.refl _, trivial⟩ (by trivial) rfl ?_)
      conv => whnf
      first | refine callF w1 ⟨.refl _, trivial⟩ (by trivial) rfl ?_ | ((repeat (refine ⟨by kernel_rfl, ?_⟩; (conv => whnf))); refine callF w1 ⟨.refl _, trivial⟩ (by trivial) rfl ?_)
      conv => whnf
      first | refine callF c2 ⟨.refl _, .refl _, trivial⟩ (by trivial) rfl ?_ | ((repeat (refine ⟨by kernel_rfl, ?_⟩; (conv => whnf))); refine callF c2 ⟨.refl _, .refl _, trivial⟩ (by trivial) rfl ?_)
      conv => whnf
      refine ⟨by kernel_rfl, ?_⟩
      conv => whnf
      refine splT (decide_eq_true (by omega)) ?_
      conv => whnf
      refine ⟨⟨(show 1 ≤ 2 / 2 - 0 by decide), by omega, (show 1 * 32 ≤ 281474976710656 by decide)⟩, ?_⟩
      conv => whnf
      refine callF fc ⟨.f (.sl (fun j hj => by simp only [Nat.zero_add]; exact first_ints0 hj rfl) (.inl rfl)), trivial⟩ ?_ rfl ?_
      conv => whnf
      · exact ⟨by omega, trivial⟩
      conv => whnf
      exact ⟨[4, 5], [4], _, _, _, rfl, .refl _, rfl, rfl, rfl⟩
    · conv => whnf
      first | refine callF e1 ⟨.refl _, trivial⟩ (by trivial) rfl ?_ | ((repeat (refine ⟨by kernel_rfl, ?_⟩; (conv => whnf))); refine callF e1 ⟨.refl _, trivial⟩ (by trivial) rfl ?_)
      conv => whnf
      first | refine callF w1 ⟨.refl _, trivial⟩ (by trivial) rfl ?_ | ((repeat (refine ⟨by kernel_rfl, ?_⟩; (conv => whnf))); refine callF w1 ⟨.refl _, trivial⟩ (by trivial) rfl ?_)
      conv => whnf
      first | refine callF c2 ⟨.refl _, .refl _, trivial⟩ (by trivial) rfl ?_ | ((repeat (refine ⟨by kernel_rfl, ?_⟩; (conv => whnf))); refine callF c2 ⟨.refl _, .refl _, trivial⟩ (by trivial) rfl ?_)
      conv => whnf
      refine ⟨by kernel_rfl, ?_⟩
      conv => whnf
      refine splT (decide_eq_true (by omega)) ?_
      conv => whnf
      refine ⟨⟨(show 1 ≤ 2 / 2 - 0 by decide), by omega, by omega, (show (pre.length + 1) * 32 ≤ 140737488355328 by omega)⟩, ?_⟩
      conv => whnf
      have hp2 : (pre ++ [q.ceil]).length = pre.length + 1 := by simp
      have eI : ints (pre ++ [q.ceil]) = .f (.sl 2 (fun j => intC ((pre ++ [q.ceil]).getD j 0)) (pre.length + 1) none) := by unfold ints; rw [hp2]
      rw [eI] at fc
      refine callF fc ⟨.f (.sl (fun j hj => by simp only [Nat.zero_add]; exact more_ints0 hj rfl) (.inl rfl)), trivial⟩ ?_ rfl ?_
      conv => whnf
      · exact ⟨by omega, trivial⟩
      conv => whnf
      exact ⟨[4, 5], [4], _, _, _, rfl, .refl _, rfl, rfl, rfl⟩
  · have hd : 0 < rcmp (q.ceil : Rat) r := rcmp_pos.2 (Rat.not_le.1 hend)
    obtain ⟨n1, n2, n3, n4, n5⟩ := sim_next hend hqr
    have es := simL_step hend hqr
    rw [es] at hcf hlp ⊢
    have u1 := qSub_ok hr (isR_rat _ (rsz_int _ zf h1)) (by omega)
    have u2 := qSub_ok hq (isR_rat _ (rsz_int _ zf h1)) (by omega)
    have zs1 := rsz_sub zr (rsz_int _ zf h1)
    have zs2 := rsz_sub zq (rsz_int _ zf h1)
    have i1 := qInv_ok (isR_rat _ zs1) (by omega)
    have i2 := qInv_ok (isR_rat _ zs2) (by omega)
    have er : r - ((q.floor : Int) : Rat) = frac r := by unfold frac; rw [n1]
    have eq' : q - ((q.floor : Int) : Rat) = frac q := rfl
    rw [er] at u1 i1
    rw [eq'] at u2 i2
    rw [invRes, if_neg n3] at i1
    rw [invRes, if_neg n2] at i2
    have zr2 := rsz_next r zr
    have zq2 := rsz_next q zq
    simp only [List.length_cons] at hlp ⊢
    rcases hsh with ⟨rfl, rfl, rfl⟩ | ⟨hpre, rfl, rfl⟩
    · conv => whnf
      first | refine callF e1 ⟨.refl _, trivial⟩ (by trivial) rfl ?_ | ((repeat (refine ⟨by kernel_rfl, ?_⟩; (conv => whnf))); refine callF e1 ⟨.refl _, trivial⟩ (by trivial) rfl ?_)
      conv => whnf
      first | refine callF w1 ⟨.refl _, trivial⟩ (by trivial) rfl ?_ | ((repeat (refine ⟨by kernel_rfl, ?_⟩; (conv => whnf))); refine callF w1 ⟨.refl _, trivial⟩ (by trivial) rfl ?_)
      conv => whnf
      first | refine callF c2 ⟨.refl _, .refl _, trivial⟩ (by trivial) rfl ?_ | ((repeat (refine ⟨by kernel_rfl, ?_⟩; (conv => whnf))); refine callF c2 ⟨.refl _, .refl _, trivial⟩ (by trivial) rfl ?_)
      conv => whnf
      refine ⟨by kernel_rfl, ?_⟩
      conv => whnf
      refine splF (decide_eq_false (by omega)) ?_
      conv => whnf
      first | refine callF f1 ⟨.refl _, trivial⟩ (by trivial) rfl ?_ | ((repeat (refine ⟨by kernel_rfl, ?_⟩; (conv => whnf))); refine callF f1 ⟨.refl _, trivial⟩ (by trivial) rfl ?_)
      conv => whnf
      refine ⟨⟨(show 1 ≤ 2 / 2 - 0 by decide), by omega, (show 1 * 32 ≤ 281474976710656 by decide)⟩, ?_⟩
      conv => whnf
      first | refine callF w2 ⟨.refl _, trivial⟩ (by trivial) rfl ?_ | ((repeat (refine ⟨by kernel_rfl, ?_⟩; (conv => whnf))); refine callF w2 ⟨.refl _, trivial⟩ (by trivial) rfl ?_)
      conv => whnf
      first | refine callF u1 ⟨.refl _, .refl _, trivial⟩ (by trivial) rfl ?_ | ((repeat (refine ⟨by kernel_rfl, ?_⟩; (conv => whnf))); refine callF u1 ⟨.refl _, .refl _, trivial⟩ (by trivial) rfl ?_)
      conv => whnf
      first | refine callF i1 ⟨.refl _, trivial⟩ (by trivial) rfl ?_ | ((repeat (refine ⟨by kernel_rfl, ?_⟩; (conv => whnf))); refine callF i1 ⟨.refl _, trivial⟩ (by trivial) rfl ?_)
      conv => whnf
      first | refine callF w2 ⟨.refl _, trivial⟩ (by trivial) rfl ?_ | ((repeat (refine ⟨by kernel_rfl, ?_⟩; (conv => whnf))); refine callF w2 ⟨.refl _, trivial⟩ (by trivial) rfl ?_)
      conv => whnf
      first | refine callF u2 ⟨.refl _, .refl _, trivial⟩ (by trivial) rfl ?_ | ((repeat (refine ⟨by kernel_rfl, ?_⟩; (conv => whnf))); refine callF u2 ⟨.refl _, .refl _, trivial⟩ (by trivial) rfl ?_)
      conv => whnf
      first | refine callF i2 ⟨.refl _, trivial⟩ (by trivial) rfl ?_ | ((repeat (refine ⟨by kernel_rfl, ?_⟩; (conv => whnf))); refine callF i2 ⟨.refl _, trivial⟩ (by trivial) rfl ?_)
      conv => whnf
      refine ⟨by kernel_rfl, ?_⟩
      conv => whnf
      refine ⟨by kernel_rfl, ?_⟩
      conv => whnf
      refine ⟨_, Nat.lt_succ_self _, [2, 3, 4, 8], [2, 3, 4, 68], _, _, [bx3 2 (ratL (frac r)⁻¹), bx3 3 (ratL (frac q)⁻¹), bx3 4 zR, (68, 1, .fa 2 1 (fun j => intC ([q.floor].getD j 0)))], rfl,
        ⟨⟨rfl, rfl⟩, .refl _, ⟨rfl, rfl⟩, .refl _, ⟨rfl, rfl⟩, .refl _, ⟨rfl, rfl⟩, .fa (fun j hj => first_ints hj rfl), trivial⟩, [q.floor], (frac r)⁻¹, (frac q)⁻¹, _, _, ?_, isR_rat _ zr2, isR_rat _ zq2, n4, n5, rfl, ⟨_, _, _, _, _, rfl⟩, ⟨_, _, _, _, _, rfl⟩, .inr ⟨by simp, rfl, rfl⟩⟩
      rw [hcf]; rfl
    · have hp2 : (pre ++ [q.floor]).length = pre.length + 1 := by simp
      conv => whnf
      first | refine callF e1 ⟨.refl _, trivial⟩ (by trivial) rfl ?_ | ((repeat (refine ⟨by kernel_rfl, ?_⟩; (conv => whnf))); refine callF e1 ⟨.refl _, trivial⟩ (by trivial) rfl ?_)
      conv => whnf
      first | refine callF w1 ⟨.refl _, trivial⟩ (by trivial) rfl ?_ | ((repeat (refine ⟨by kernel_rfl, ?_⟩; (conv => whnf))); refine callF w1 ⟨.refl _, trivial⟩ (by trivial) rfl ?_)
      conv => whnf
      first | refine callF c2 ⟨.refl _, .refl _, trivial⟩ (by trivial) rfl ?_ | ((repeat (refine ⟨by kernel_rfl, ?_⟩; (conv => whnf))); refine callF c2 ⟨.refl _, .refl _, trivial⟩ (by trivial) rfl ?_)
      conv => whnf
      refine ⟨by kernel_rfl, ?_⟩
      conv => whnf
      refine splF (decide_eq_false (by omega)) ?_
      conv => whnf
      first | refine callF f1 ⟨.refl _, trivial⟩ (by trivial) rfl ?_ | ((repeat (refine ⟨by kernel_rfl, ?_⟩; (conv => whnf))); refine callF f1 ⟨.refl _, trivial⟩ (by trivial) rfl ?_)
      conv => whnf
      refine ⟨⟨(show 1 ≤ 2 / 2 - 0 by decide), by omega, by omega, (show (pre.length + 1) * 32 ≤ 140737488355328 by omega)⟩, ?_⟩
      conv => whnf
      first | refine callF w2 ⟨.refl _, trivial⟩ (by trivial) rfl ?_ | ((repeat (refine ⟨by kernel_rfl, ?_⟩; (conv => whnf))); refine callF w2 ⟨.refl _, trivial⟩ (by trivial) rfl ?_)
      conv => whnf
      first | refine callF u1 ⟨.refl _, .refl _, trivial⟩ (by trivial) rfl ?_ | ((repeat (refine ⟨by kernel_rfl, ?_⟩; (conv => whnf))); refine callF u1 ⟨.refl _, .refl _, trivial⟩ (by trivial) rfl ?_)
      conv => whnf
      first | refine callF i1 ⟨.refl _, trivial⟩ (by trivial) rfl ?_ | ((repeat (refine ⟨by kernel_rfl, ?_⟩; (conv => whnf))); refine callF i1 ⟨.refl _, trivial⟩ (by trivial) rfl ?_)
      conv => whnf
      first | refine callF w2 ⟨.refl _, trivial⟩ (by trivial) rfl ?_ | ((repeat (refine ⟨by kernel_rfl, ?_⟩; (conv => whnf))); refine callF w2 ⟨.refl _, trivial⟩ (by trivial) rfl ?_)
      conv => whnf
      first | refine callF u2 ⟨.refl _, .refl _, trivial⟩ (by trivial) rfl ?_ | ((repeat (refine ⟨by kernel_rfl, ?_⟩; (conv => whnf))); refine callF u2 ⟨.refl _, .refl _, trivial⟩ (by trivial) rfl ?_)
      conv => whnf
      first | refine callF i2 ⟨.refl _, trivial⟩ (by trivial) rfl ?_ | ((repeat (refine ⟨by kernel_rfl, ?_⟩; (conv => whnf))); refine callF i2 ⟨.refl _, trivial⟩ (by trivial) rfl ?_)
      conv => whnf
      refine ⟨by kernel_rfl, ?_⟩
      conv => whnf
      refine ⟨by kernel_rfl, ?_⟩
      conv => whnf
      refine ⟨_, Nat.lt_succ_self _, [2, 3, 4, 8], [2, 3, 4, 68], _, _, [bx3 2 (ratL (frac r)⁻¹), bx3 3 (ratL (frac q)⁻¹), bx3 4 zR, (68, 1, .fa 2 (pre.length + 1) (fun j => intC ((pre ++ [q.floor]).getD j 0)))], rfl,
        ⟨⟨rfl, rfl⟩, .refl _, ⟨rfl, rfl⟩, .refl _, ⟨rfl, rfl⟩, .refl _, ⟨rfl, rfl⟩, .fa (fun j hj => more_ints hj rfl), trivial⟩, pre ++ [q.floor], (frac r)⁻¹, (frac q)⁻¹, _, _, ?_, isR_rat _ zr2, isR_rat _ zq2, n4, n5, rfl, ⟨_, _, _, _, _, rfl⟩, ⟨_, _, _, _, _, rfl⟩, .inr ⟨by simp, ?_, ?_⟩⟩
      · rw [hcf]; simp
      · rw [hp2]; rfl
      · rw [hp2]; rfl

/-- what Simplest answers -/
def simRes (lo hi : Rat) : AV := if hi < lo then .tup [rat0, .f (.bool false)] else if lo ≤ 0 ∧ 0 ≤ hi then .tup [rat 0, .f (.bool true)] else
  if hi < 0 then .tup [rat (-sim (-hi) (-lo)), .f (.bool true)] else .tup [rat (sim lo hi), .f (.bool true)]
theorem Simplest_ok {x y : AV} {lo hi : Rat} {s : Nat} (hx : IsR x lo s) (hy : IsR y hi s) (hs : s ≤ 1048576) : ACall Tryz.prog 8 [x, y] (simRes lo hi) := by
  have c1 := qCompare_ok hx hy (by omega)
  have g1 := qSign_ok hx (by omega)
  have g2 := qSign_ok hy (by omega)
  have sp := fun h0 hl => SimPos_ok hx hy hs h0 hl
  have zx := hx.size
  have zy := hy.size
  have m1 := qNeg_ok hx (by omega)
  have m2 := qNeg_ok hy (by omega)
  have sn := fun h0 hl => SimPos_ok (isR_rat (-hi) (s := s) (by rw [rsz_neg]; exact zy)) (isR_rat (-lo) (s := s) (by rw [rsz_neg]; exact zx)) hs h0 hl
  have f0 := qFromInt_ok 0 (by decide)
  have h1 : 1 ≤ s := by cases hx; assumption
  obtain ⟨na, ga, la, ga', la', _, hga, hga', hna, hna', _⟩ := hx
  obtain ⟨nb, gb, lb, gb', lb', _, hgb, hgb', hnb, hnb', _⟩ := hy
  generalize mkRat (ival na (nval ga la)) (nval ga' la') = lo at *
  generalize mkRat (ival nb (nval gb lb)) (nval gb' lb') = hi at *
  unfold simRes
  by_cases h2 : hi < lo
  · rw [if_pos h2]
    rw [rcmp_gt h2] at c1
    refine acall_rule env [0, 1, 2, 3, 4, 5, 6, 8, 9, 10, 12, 13, 15, 17, 23, 33, 53] Tryz.func8 rfl rfl rfl rfl ?_
    conv => whnf
    first | refine callF c1 ⟨.refl _, .refl _, trivial⟩ (by trivial) rfl ?_ | ((repeat (refine ⟨by kernel_rfl, ?_⟩; (conv => whnf))); refine callF c1 ⟨.refl _, .refl _, trivial⟩ (by trivial) rfl ?_)
    conv => whnf
    refine ⟨(by (try simp only [true_and, and_true, Nat.sub_zero, Nat.zero_add, Int.toNat_natCast]) <;> omega), ?_⟩
    exact .tup ⟨.rat0, .refl _, trivial⟩
  rw [if_neg h2]
  have hl : lo ≤ hi := Rat.not_lt.1 h2
  have hc := rcmp_le.2 hl
  by_cases h3 : lo ≤ 0 ∧ 0 ≤ hi
  · rw [if_pos h3]
    have d1 := rcmp_le.2 h3.1
    have d2 : 0 ≤ rcmp hi 0 := by have := rcmp_le.2 h3.2; rw [rcmp_neg] at this; omega
    refine acall_rule env [0, 1, 2, 3, 4, 5, 6, 8, 9, 10, 12, 13, 15, 17, 23, 33, 53] Tryz.func8 rfl rfl rfl rfl ?_
    conv => whnf
    first | refine callF c1 ⟨.refl _, .refl _, trivial⟩ (by trivial) rfl ?_ | ((repeat (refine ⟨by kernel_rfl, ?_⟩; (conv => whnf))); refine callF c1 ⟨.refl _, .refl _, trivial⟩ (by trivial) rfl ?_)
    conv => whnf
    refine splF (decide_eq_false (by omega)) ?_
    conv => whnf
    first | refine callF g1 ⟨.refl _, trivial⟩ (by trivial) rfl ?_ | ((repeat (refine ⟨by kernel_rfl, ?_⟩; (conv => whnf))); refine callF g1 ⟨.refl _, trivial⟩ (by trivial) rfl ?_)
    conv => whnf
    refine splT (decide_eq_true (by omega)) ?_
    conv => whnf
    first | refine callF g2 ⟨.refl _, trivial⟩ (by trivial) rfl ?_ | ((repeat (refine ⟨by kernel_rfl, ?_⟩; (conv => whnf))); refine callF g2 ⟨.refl _, trivial⟩ (by trivial) rfl ?_)
    conv => whnf
    refine splT (decide_eq_true (by omega)) ?_
    conv => whnf
    first | refine callF f0 ⟨.refl _, trivial⟩ (by trivial) rfl ?_ | ((repeat (refine ⟨by kernel_rfl, ?_⟩; (conv => whnf))); refine callF f0 ⟨.refl _, trivial⟩ (by trivial) rfl ?_)
    conv => whnf
    (repeat (refine ⟨by kernel_rfl, ?_⟩; (conv => whnf)))
    refine ⟨(by (try simp only [true_and, and_true, Nat.sub_zero, Nat.zero_add, Int.toNat_natCast]) <;> omega), ?_⟩
    exact .refl _
  rw [if_neg h3]
  by_cases h4 : hi < 0
  · rw [if_pos h4]
    have d1 : rcmp lo 0 ≤ 0 := rcmp_le.2 (by grind)
    have d2 : rcmp hi 0 = -1 := rcmp_lt h4
    rw [d2] at g2
    have sn1 := sn (by grind) (by grind)
    have z3 : rsz (sim (-hi) (-lo)) ≤ 1048576 * 1000 := by
      have q1 := (isR_rat (-hi) (s := s) (by rw [rsz_neg]; exact zy)).size
      obtain ⟨k1, ⟨k2, _⟩, k3, _⟩ := simL_spec _ (-hi) (-lo) rfl (by grind) (by grind)
      have k4 := lsz_cf_s (-hi) q1
      have k5 := ofCf_sz k1
      omega
    have m3 := qNeg_ok (isR_rat _ z3) (by omega)
    refine acall_rule env [0, 1, 2, 3, 4, 5, 6, 8, 9, 10, 12, 13, 15, 17, 23, 33, 53] Tryz.func8 rfl rfl rfl rfl ?_
    conv => whnf
    first | refine callF c1 ⟨.refl _, .refl _, trivial⟩ (by trivial) rfl ?_ | ((repeat (refine ⟨by kernel_rfl, ?_⟩; (conv => whnf))); refine callF c1 ⟨.refl _, .refl _, trivial⟩ (by trivial) rfl ?_)
    conv => whnf
    refine splF (decide_eq_false (by omega)) ?_
    conv => whnf
    first | refine callF g1 ⟨.refl _, trivial⟩ (by trivial) rfl ?_ | ((repeat (refine ⟨by kernel_rfl, ?_⟩; (conv => whnf))); refine callF g1 ⟨.refl _, trivial⟩ (by trivial) rfl ?_)
    conv => whnf
    refine splT (decide_eq_true (by omega)) ?_
    conv => whnf
    first | refine callF g2 ⟨.refl _, trivial⟩ (by trivial) rfl ?_ | ((repeat (refine ⟨by kernel_rfl, ?_⟩; (conv => whnf))); refine callF g2 ⟨.refl _, trivial⟩ (by trivial) rfl ?_)
    conv => whnf
    first | refine callF g2 ⟨.refl _, trivial⟩ (by trivial) rfl ?_ | ((repeat (refine ⟨by kernel_rfl, ?_⟩; (conv => whnf))); refine callF g2 ⟨.refl _, trivial⟩ (by trivial) rfl ?_)
    conv => whnf
    first | refine callF m2 ⟨.refl _, trivial⟩ (by trivial) rfl ?_ | ((repeat (refine ⟨by kernel_rfl, ?_⟩; (conv => whnf))); refine callF m2 ⟨.refl _, trivial⟩ (by trivial) rfl ?_)
    conv => whnf
    first | refine callF m1 ⟨.refl _, trivial⟩ (by trivial) rfl ?_ | ((repeat (refine ⟨by kernel_rfl, ?_⟩; (conv => whnf))); refine callF m1 ⟨.refl _, trivial⟩ (by trivial) rfl ?_)
    conv => whnf
    first | refine callF sn1 ⟨.refl _, .refl _, trivial⟩ (by trivial) rfl ?_ | ((repeat (refine ⟨by kernel_rfl, ?_⟩; (conv => whnf))); refine callF sn1 ⟨.refl _, .refl _, trivial⟩ (by trivial) rfl ?_)
    conv => whnf
    refine ⟨by kernel_rfl, ?_⟩
    conv => whnf
    first | refine callF m3 ⟨.refl _, trivial⟩ (by trivial) rfl ?_ | ((repeat (refine ⟨by kernel_rfl, ?_⟩; (conv => whnf))); refine callF m3 ⟨.refl _, trivial⟩ (by trivial) rfl ?_)
    conv => whnf
    (repeat (refine ⟨by kernel_rfl, ?_⟩; (conv => whnf)))
    refine ⟨(by (try simp only [true_and, and_true, Nat.sub_zero, Nat.zero_add, Int.toNat_natCast]) <;> omega), ?_⟩
    exact .refl _
  · rw [if_neg h4]
    exact sp (by grind) hl
end Go.Abs

/- Laws of layer 5: ints, awake, round trips. -/
set_option autoImplicit false
set_option maxHeartbeats 4000000
set_option maxRecDepth 10000
set_option linter.unusedVariables false
set_option linter.unusedSimpArgs false
namespace Go.Abs
open Go Go.Proofs

theorem ints_same (l : List Int) (h : lsz l ≤ 1099511627776) : ACall Tryz.prog 38 [ints l, ints l] (.f (.bool true)) := by
  have hlen : l.length ≤ lsz l := by
    clear h
    induction l with
    | nil => simp
    | cons z l ih => rw [lsz_cons, List.length_cons]; omega
  have hsz : ∀ i, isz (l.getD i 0) ≤ 1099511627776 := by
    intro i
    rcases Nat.lt_or_ge i l.length with hi | hi
    · rw [List.getD_eq_getElem?_getD, List.getElem?_eq_getElem hi]
      have := lsz_get hi
      show isz l[i] ≤ _
      omega
    · rw [List.getD_eq_getElem?_getD, List.getElem?_eq_none hi]; exact Nat.zero_le _
  have eq := fun i => rEqual_same (l.getD i 0) (Nat.le_trans (hsz i) (by omega))
  obtain ⟨n, hn⟩ : ∃ n, l.length = n := ⟨_, rfl⟩
  have eI : ints l = .f (.sl 2 (fun j => intC (l.getD j 0)) n none) := by unfold ints; rw [hn]
  rw [eI]
  refine acall_rule env [0, 1, 4, 5, 10, 14, 26] Tryz.func38 rfl rfl rfl rfl ?_
  conv => whnf
  refine splF (by simp only [decide_eq_true_eq, decide_eq_false_iff_not, Bool.not_eq_true', Bool.not_eq_false', gt_iff_lt, ge_iff_le] <;> omega) ?_
  conv => whnf
  refine loop_mod [0, 1, 4, 5] [] [4] []
    (fun μ fr hp => ∃ i : Nat, fr = [(0, .f (.sl 2 (fun j => intC (l.getD j 0)) n none)), (1, .f (.sl 2 (fun j => intC (l.getD j 0)) n none)), (4, .f (.bool false)), (5, .f (.int .i64 i))] ∧ hp = [] ∧ i ≤ n ∧ μ = n - i)
    (fun e fr hp => e = .exit 0 ∧ fr = [(4, .f (.bool false))] ∧ hp = [])
    ⟨_, _, _, _, rfl, .refl _, 0, rfl, rfl, Nat.zero_le _, rfl⟩ ?_ ?_
  · rintro _ _ _ ⟨rfl, rfl, rfl⟩
    conv => whnf
    (repeat (refine ⟨by kernel_rfl, ?_⟩; (conv => whnf)))
    refine ⟨(by (try simp only [true_and, and_true, Nat.sub_zero, Nat.zero_add, Int.toNat_natCast]) <;> omega), ?_⟩
    exact .refl _
  rintro μ _ _ ⟨i, rfl, rfl, hi, rfl⟩
  by_cases hin : i < n
  · have e := eq i
    conv => whnf
    refine splT (by simp only [decide_eq_true_eq, decide_eq_false_iff_not, Bool.not_eq_true', Bool.not_eq_false', gt_iff_lt, ge_iff_le] <;> omega) ?_
    conv => whnf
    refine ⟨(by (try simp only [true_and, and_true, Nat.sub_zero, Nat.zero_add, Int.toNat_natCast]) <;> omega), ?_⟩
    conv => whnf
    refine ⟨(by (try simp only [true_and, and_true, Nat.sub_zero, Nat.zero_add, Int.toNat_natCast]) <;> omega), ?_⟩
    conv => whnf
    first | refine callF e ⟨.refl _, .refl _, trivial⟩ (by trivial) rfl ?_ | ((repeat (refine ⟨by kernel_rfl, ?_⟩; (conv => whnf))); refine callF e ⟨.refl _, .refl _, trivial⟩ (by trivial) rfl ?_)
    conv => whnf
    refine ⟨by kernel_rfl, ?_⟩
    conv => whnf
    refine fit64 (by omega) ?_
    conv => whnf
    refine ⟨_, ?_, _, _, _, rfl, .refl _, i + 1, rfl, rfl, by omega, rfl⟩
    omega
  · conv => whnf
    refine splF (by simp only [decide_eq_true_eq, decide_eq_false_iff_not, Bool.not_eq_true', Bool.not_eq_false', gt_iff_lt, ge_iff_le] <;> omega) ?_
    conv => whnf
    exact ⟨_, _, _, rfl, .refl _, rfl, rfl, rfl⟩

theorem cf_ex : cf (Rat.divInt 415 93) = [4, 2, 6, 7] := by
  have e1 : (frac (Rat.divInt 415 93))⁻¹ = Rat.divInt 93 43 := by decide +kernel
  have e2 : (frac (Rat.divInt 93 43))⁻¹ = Rat.divInt 43 7 := by decide +kernel
  have e3 : (frac (Rat.divInt 43 7))⁻¹ = Rat.divInt 7 1 := by decide +kernel
  have f1 : frac (Rat.divInt 415 93) ≠ 0 := by decide +kernel
  have f2 : frac (Rat.divInt 93 43) ≠ 0 := by decide +kernel
  have f3 : frac (Rat.divInt 43 7) ≠ 0 := by decide +kernel
  have f4 : frac (Rat.divInt 7 1) = 0 := by decide +kernel
  rw [cf_step _ f1, e1, cf_step _ f2, e2, cf_step _ f3, e3, cf_end _ f4]
  decide +kernel
theorem sim_ex : sim (Rat.divInt 3 10) (Rat.divInt 2 5) = Rat.divInt 1 3 := by
  have e1 : (frac (Rat.divInt 2 5))⁻¹ = Rat.divInt 5 2 := by decide +kernel
  have e2 : (frac (Rat.divInt 3 10))⁻¹ = Rat.divInt 10 3 := by decide +kernel
  rw [sim_step (by decide +kernel) (by decide +kernel), e1, e2, sim_end (by decide +kernel)]
  decide +kernel
theorem nb_ex : nbRes (Rat.divInt 355 113) 10 = (Rat.divInt 25 8, Rat.divInt 22 7) := by
  unfold nbRes
  rw [if_neg (by decide +kernel)]
  have e0 : nb0 (Rat.divInt 355 113) = ⟨3, 1, 4, 1⟩ := by
    unfold nb0
    have : (Rat.divInt 355 113).floor = 3 := by decide +kernel
    rw [this]; rfl
  have en : (Rat.divInt 355 113).num = 355 := by decide +kernel
  have ed : ((Rat.divInt 355 113).den : Int) = 113 := by decide +kernel
  rw [e0, en, ed]
  have n1 : Nb.next ⟨3, 1, 4, 1⟩ 355 113 10 = ⟨3, 1, 22, 7⟩ := by rfl
  have n2 : Nb.next ⟨3, 1, 22, 7⟩ 355 113 10 = ⟨25, 8, 22, 7⟩ := by rfl
  have d1 : ¬ Nb.done ⟨3, 1, 4, 1⟩ 355 113 10 := by
    intro h; exact absurd h.2 (by show ¬ ((6 : Int) = 0); decide)
  have d2 : ¬ Nb.done ⟨3, 1, 22, 7⟩ 355 113 10 := by
    intro h; exact absurd h.1 (by show ¬ ((1 : Int) = 0); decide)
  have d3 : Nb.done ⟨25, 8, 22, 7⟩ 355 113 10 := ⟨rfl, rfl⟩
  have ef : nbF ((2 : Int) * 10).toNat ⟨3, 1, 4, 1⟩ 355 113 10 = ⟨25, 8, 22, 7⟩ := by
    show nbF (18 + 1 + 1) _ _ _ _ = _
    rw [nbF_next d1, n1, nbF_next d2, n2, nbF_done d3]
  rw [ef]
theorem awake5_ok : ACall Tryz.prog 10 [] (.f (.bool true)) := by
  have o1 := sOf_ok 415 93 (by decide) (by decide)
  have o2 := sOf_ok 3 10 (by decide) (by decide)
  have o3 := sOf_ok 2 5 (by decide) (by decide)
  have o4 := sOf_ok 355 113 (by decide) (by decide)
  have o5 := sOf_ok 1 3 (by decide) (by decide)
  have o6 := sOf_ok 25 8 (by decide) (by decide)
  have o7 := sOf_ok 22 7 (by decide) (by decide)
  have i10 := rFromInt_ok 10 (by decide)
  have i4 := rFromInt_ok 4 (by decide)
  have i2 := rFromInt_ok 2 (by decide)
  have i6 := rFromInt_ok 6 (by decide)
  have i7 := rFromInt_ok 7 (by decide)
  have z : ∀ n d : Int, isz n ≤ 1 → isz d ≤ 1 → rsz (Rat.divInt n d) ≤ 1 := fun n d h1 h2 => rsz_divInt h1 h2 (by omega)
  have c1 := Continued_ok (isR_rat _ (z 415 93 (by decide) (by decide))) (by omega) (by rw [cf_ex]; decide)
  rw [cf_ex] at c1
  have s1 := Simplest_ok (isR_rat _ (z 3 10 (by decide) (by decide))) (isR_rat _ (z 2 5 (by decide) (by decide))) (by omega)
  rw [simRes, if_neg (by decide +kernel), if_neg (by decide +kernel), if_neg (by decide +kernel), sim_ex] at s1
  have b1 := Below_ok (isR_rat _ (z 355 113 (by decide) (by decide))) (isI_int 10 (s := 1) (by decide)) (by omega)
  have a1 := Above_ok (isR_rat _ (z 355 113 (by decide) (by decide))) (isI_int 10 (s := 1) (by decide)) (by omega)
  rw [belowRes, if_neg (by decide), nb_ex] at b1
  rw [aboveRes, if_neg (by decide), nb_ex] at a1
  have y1 := ints_same [4, 2, 6, 7] (by decide)
  have q1 := sEqual_same (Rat.divInt 1 3) (Nat.le_trans (z 1 3 (by decide) (by decide)) (by omega))
  have q2 := sEqual_same (Rat.divInt 25 8) (Nat.le_trans (z 25 8 (by decide) (by decide)) (by omega))
  have q3 := sEqual_same (Rat.divInt 22 7) (Nat.le_trans (z 22 7 (by decide) (by decide)) (by omega))
  generalize Rat.divInt 415 93 = r1 at *
  generalize Rat.divInt 3 10 = r2 at *
  generalize Rat.divInt 2 5 = r3 at *
  generalize Rat.divInt 355 113 = r4 at *
  generalize Rat.divInt 1 3 = r5 at *
  generalize Rat.divInt 25 8 = r6 at *
  generalize Rat.divInt 22 7 = r7 at *
  refine acall_rule env [0, 1, 2, 3, 4, 5, 6, 7] Tryz.func10 rfl rfl rfl rfl ?_
  conv => whnf
  first | refine callF o1 ⟨.refl _, .refl _, trivial⟩ (by trivial) rfl ?_ | ((repeat (refine ⟨by kernel_rfl, ?_⟩; (conv => whnf))); refine callF o1 ⟨.refl _, .refl _, trivial⟩ (by trivial) rfl ?_)
  conv => whnf
  first | refine callF c1 ⟨.refl _, trivial⟩ (by trivial) rfl ?_ | ((repeat (refine ⟨by kernel_rfl, ?_⟩; (conv => whnf))); refine callF c1 ⟨.refl _, trivial⟩ (by trivial) rfl ?_)
  conv => whnf
  first | refine callF o2 ⟨.refl _, .refl _, trivial⟩ (by trivial) rfl ?_ | ((repeat (refine ⟨by kernel_rfl, ?_⟩; (conv => whnf))); refine callF o2 ⟨.refl _, .refl _, trivial⟩ (by trivial) rfl ?_)
  conv => whnf
  first | refine callF o3 ⟨.refl _, .refl _, trivial⟩ (by trivial) rfl ?_ | ((repeat (refine ⟨by kernel_rfl, ?_⟩; (conv => whnf))); refine callF o3 ⟨.refl _, .refl _, trivial⟩ (by trivial) rfl ?_)
  conv => whnf
  first | refine callF s1 ⟨.refl _, .refl _, trivial⟩ (by trivial) rfl ?_ | ((repeat (refine ⟨by kernel_rfl, ?_⟩; (conv => whnf))); refine callF s1 ⟨.refl _, .refl _, trivial⟩ (by trivial) rfl ?_)
  conv => whnf
  first | refine callF o4 ⟨.refl _, .refl _, trivial⟩ (by trivial) rfl ?_ | ((repeat (refine ⟨by kernel_rfl, ?_⟩; (conv => whnf))); refine callF o4 ⟨.refl _, .refl _, trivial⟩ (by trivial) rfl ?_)
  conv => whnf
  first | refine callF i10 ⟨.refl _, trivial⟩ (by trivial) rfl ?_ | ((repeat (refine ⟨by kernel_rfl, ?_⟩; (conv => whnf))); refine callF i10 ⟨.refl _, trivial⟩ (by trivial) rfl ?_)
  conv => whnf
  first | refine callF b1 ⟨.refl _, .refl _, trivial⟩ (by trivial) rfl ?_ | ((repeat (refine ⟨by kernel_rfl, ?_⟩; (conv => whnf))); refine callF b1 ⟨.refl _, .refl _, trivial⟩ (by trivial) rfl ?_)
  conv => whnf
  first | refine callF o4 ⟨.refl _, .refl _, trivial⟩ (by trivial) rfl ?_ | ((repeat (refine ⟨by kernel_rfl, ?_⟩; (conv => whnf))); refine callF o4 ⟨.refl _, .refl _, trivial⟩ (by trivial) rfl ?_)
  conv => whnf
  first | refine callF i10 ⟨.refl _, trivial⟩ (by trivial) rfl ?_ | ((repeat (refine ⟨by kernel_rfl, ?_⟩; (conv => whnf))); refine callF i10 ⟨.refl _, trivial⟩ (by trivial) rfl ?_)
  conv => whnf
  first | refine callF a1 ⟨.refl _, .refl _, trivial⟩ (by trivial) rfl ?_ | ((repeat (refine ⟨by kernel_rfl, ?_⟩; (conv => whnf))); refine callF a1 ⟨.refl _, .refl _, trivial⟩ (by trivial) rfl ?_)
  conv => whnf
  first | refine callF i4 ⟨.refl _, trivial⟩ (by trivial) rfl ?_ | ((repeat (refine ⟨by kernel_rfl, ?_⟩; (conv => whnf))); refine callF i4 ⟨.refl _, trivial⟩ (by trivial) rfl ?_)
  conv => whnf
  first | refine callF i2 ⟨.refl _, trivial⟩ (by trivial) rfl ?_ | ((repeat (refine ⟨by kernel_rfl, ?_⟩; (conv => whnf))); refine callF i2 ⟨.refl _, trivial⟩ (by trivial) rfl ?_)
  conv => whnf
  first | refine callF i6 ⟨.refl _, trivial⟩ (by trivial) rfl ?_ | ((repeat (refine ⟨by kernel_rfl, ?_⟩; (conv => whnf))); refine callF i6 ⟨.refl _, trivial⟩ (by trivial) rfl ?_)
  conv => whnf
  first | refine callF i7 ⟨.refl _, trivial⟩ (by trivial) rfl ?_ | ((repeat (refine ⟨by kernel_rfl, ?_⟩; (conv => whnf))); refine callF i7 ⟨.refl _, trivial⟩ (by trivial) rfl ?_)
  conv => whnf
  refine callF y1 ⟨.refl _, .f (.sl (fun j hj => match j, hj with | 0, _ => .fle_intC 4 | 1, _ => .fle_intC 2 | 2, _ => .fle_intC 6 | 3, _ => .fle_intC 7) (.inl rfl)), trivial⟩ (by trivial) rfl ?_
  conv => whnf
  first | refine callF o5 ⟨.refl _, .refl _, trivial⟩ (by trivial) rfl ?_ | ((repeat (refine ⟨by kernel_rfl, ?_⟩; (conv => whnf))); refine callF o5 ⟨.refl _, .refl _, trivial⟩ (by trivial) rfl ?_)
  conv => whnf
  first | refine callF q1 ⟨.refl _, .refl _, trivial⟩ (by trivial) rfl ?_ | ((repeat (refine ⟨by kernel_rfl, ?_⟩; (conv => whnf))); refine callF q1 ⟨.refl _, .refl _, trivial⟩ (by trivial) rfl ?_)
  conv => whnf
  first | refine callF o6 ⟨.refl _, .refl _, trivial⟩ (by trivial) rfl ?_ | ((repeat (refine ⟨by kernel_rfl, ?_⟩; (conv => whnf))); refine callF o6 ⟨.refl _, .refl _, trivial⟩ (by trivial) rfl ?_)
  conv => whnf
  first | refine callF q2 ⟨.refl _, .refl _, trivial⟩ (by trivial) rfl ?_ | ((repeat (refine ⟨by kernel_rfl, ?_⟩; (conv => whnf))); refine callF q2 ⟨.refl _, .refl _, trivial⟩ (by trivial) rfl ?_)
  conv => whnf
  first | refine callF o7 ⟨.refl _, .refl _, trivial⟩ (by trivial) rfl ?_ | ((repeat (refine ⟨by kernel_rfl, ?_⟩; (conv => whnf))); refine callF o7 ⟨.refl _, .refl _, trivial⟩ (by trivial) rfl ?_)
  conv => whnf
  first | refine callF q3 ⟨.refl _, .refl _, trivial⟩ (by trivial) rfl ?_ | ((repeat (refine ⟨by kernel_rfl, ?_⟩; (conv => whnf))); refine callF q3 ⟨.refl _, .refl _, trivial⟩ (by trivial) rfl ?_)
  conv => whnf
  refine ⟨by kernel_rfl, ?_⟩
  conv => whnf
  (repeat (refine ⟨by kernel_rfl, ?_⟩; (conv => whnf)))
  refine ⟨(by (try simp only [true_and, and_true, Nat.sub_zero, Nat.zero_add, Int.toNat_natCast]) <;> omega), ?_⟩
  exact .refl _

end Go.Abs

/- Laws of layer 5: Simpler, Enclose, Monotone. -/
set_option autoImplicit false
set_option maxHeartbeats 4000000
set_option maxRecDepth 10000
set_option linter.unusedVariables false
set_option linter.unusedSimpArgs false
namespace Go.Abs
open Go Go.Proofs


/-- the simplest number -/
def simV (lo hi : Rat) : Rat := if lo ≤ 0 ∧ 0 ≤ hi then 0 else if hi < 0 then -sim (-hi) (-lo) else sim lo hi
theorem simRes_eq (lo hi : Rat) (h : lo ≤ hi) : simRes lo hi = .tup [rat (simV lo hi), .f (.bool true)] := by
  unfold simRes simV
  rw [if_neg (Rat.not_lt.2 h)]
  split
  · rfl
  · split <;> rfl
theorem num_abs_neg (a : Rat) : (-a).num.natAbs = a.num.natAbs := by rw [Rat.neg_num, Int.natAbs_neg]
theorem simV_spec {lo hi : Rat} (hl : lo ≤ hi) : lo ≤ simV lo hi ∧ simV lo hi ≤ hi ∧ ∀ y, lo ≤ y → y ≤ hi → (simV lo hi).den ≤ y.den ∧ (simV lo hi).num.natAbs ≤ y.num.natAbs := by
  unfold simV
  split
  · rename_i h
    refine ⟨h.1, h.2, fun y _ _ => ⟨Nat.pos_of_ne_zero y.den_nz, Nat.zero_le _⟩⟩
  rename_i h
  split
  · rename_i h2
    obtain ⟨q1, q2, q3⟩ := sim_spec _ (-hi) (-lo) rfl (by grind) (by grind)
    refine ⟨by grind, by grind, fun y h3 h4 => ?_⟩
    obtain ⟨q4, q5⟩ := q3 (-y) (by grind) (by grind)
    rw [Rat.neg_den] at q4 ⊢
    rw [num_abs_neg, ← num_abs_neg y]
    have p := Rat.num_nonneg.2 (show 0 ≤ sim (-hi) (-lo) by grind)
    exact ⟨q4, by omega⟩
  · rename_i h2
    have hp : 0 < lo := by grind
    obtain ⟨q1, q2, q3⟩ := sim_spec _ lo hi rfl hp hl
    refine ⟨q1, q2, fun y h3 h4 => ?_⟩
    obtain ⟨q4, q5⟩ := q3 y h3 h4
    have p := Rat.num_nonneg.2 (show 0 ≤ sim lo hi by grind)
    exact ⟨q4, by omega⟩
theorem simV_self (a : Rat) : simV a a = a := by
  obtain ⟨h1, h2, _⟩ := simV_spec (Rat.le_refl (a := a))
  exact Rat.le_antisymm h2 h1
theorem sim_sz {lo hi : Rat} {s : Nat} (h0 : 0 < lo) (hl : lo ≤ hi) (hz : rsz lo ≤ s) : rsz (sim lo hi) ≤ 200 * s + 3 := by
  obtain ⟨k1, ⟨k2, _⟩, _⟩ := simL_spec _ lo hi rfl h0 hl
  have k4 := lsz_cf_s lo hz
  have k5 := ofCf_sz k1
  omega
theorem simV_sz {lo hi : Rat} {s : Nat} (hl : lo ≤ hi) (h1 : rsz lo ≤ s) (h2 : rsz hi ≤ s) : rsz (simV lo hi) ≤ 200 * s + 3 := by
  unfold simV
  split
  · exact Nat.le_trans (show rsz 0 ≤ 1 by decide) (by omega)
  split
  · rw [rsz_neg]
    exact sim_sz (by grind) (by grind) (by rw [rsz_neg]; exact h2)
  · exact sim_sz (by grind) hl h1

theorem nb_big (a : Rat) {M : Int} (h : (a.den : Int) ≤ M) : nbRes a M = (a, a) := by unfold nbRes; rw [if_pos h]
theorem nb_mono (a : Rat) {M N : Int} (h1 : 1 ≤ M) (h : M ≤ N) : (nbRes a M).1 ≤ (nbRes a N).1 ∧ (nbRes a N).2 ≤ (nbRes a M).2 := by
  obtain ⟨p1, p2, p3, p4, p5⟩ := nb_spec a h1
  obtain ⟨q1, q2, q3, q4, q5⟩ := nb_spec a (show 1 ≤ N by omega)
  constructor
  · refine Rat.not_lt.1 fun hlt => ?_
    rcases Rat.le_iff_lt_or_eq.1 (show (nbRes a M).1 ≤ (nbRes a N).2 by grind) with h2 | h2
    · have := q5 _ hlt h2; omega
    · have h3 : (nbRes a M).1 = a := by grind
      rw [h3] at p3
      rw [nb_big a (M := N) (by omega)] at hlt
      grind
  · refine Rat.not_lt.1 fun hlt => ?_
    rcases Rat.le_iff_lt_or_eq.1 (show (nbRes a N).1 ≤ (nbRes a M).2 by grind) with h2 | h2
    · have := q5 _ h2 hlt; omega
    · have h3 : (nbRes a M).2 = a := by grind
      rw [h3] at p4
      rw [nb_big a (M := N) (by omega)] at hlt
      grind
theorem nb_sz (a : Rat) {M : Int} {s : Nat} (h1 : 1 ≤ M) (za : rsz a ≤ s) (zM : isz M ≤ s) : rsz (nbRes a M).1 ≤ 3 * s + 1 ∧ rsz (nbRes a M).2 ≤ 3 * s + 1 := by
  unfold nbRes
  have h0 : 1 ≤ s := Nat.le_trans (one_le_rsz a) za
  split
  · exact ⟨by show rsz a ≤ _; omega, by show rsz a ≤ _; omega⟩
  · rename_i h
    have hmx : M < (a.den : Int) := by omega
    have hcop : Int.gcd a.num a.den = 1 := a.reduced
    have ok0 := nb0_ok h1 hmx
    obtain ⟨ok, _⟩ := nbF_ok hcop hmx (2 * M).toNat (nb0 a) ok0 (by have := ok0.l1; have := ok0.h1; omega)
    obtain ⟨z1, z2, z3, z4⟩ := ok.sz (by omega) (rsz_num za) zM h0
    exact ⟨rsz_divInt z1 (by omega) (by omega), rsz_divInt z3 (by omega) (by omega)⟩

end Go.Abs

/- The tape of choices: New, Next, Mod. -/
set_option autoImplicit false
set_option maxHeartbeats 4000000
set_option maxRecDepth 10000
set_option linter.unusedVariables false
set_option linter.unusedSimpArgs false
namespace Go.Abs
open Go Go.Proofs

/-- a choice -/
def tch (v N : Int) : Int := v % 18446744073709551616 % N
theorem tch_range (v : Int) {N : Int} (h : 1 ≤ N) : 0 ≤ tch v N ∧ tch v N < N := ⟨Int.emod_nonneg _ (by omega), Int.emod_lt_of_pos _ (by omega)⟩
theorem Mod_ok (v N : Int) (h1 : 1 ≤ N) (h2 : N ≤ 9223372036854775807) : ACall Tryz.prog 18 [.f (.int .i64 v), .f (.int .i64 N)] (.f (.int .i64 (tch v N))) := by
  obtain ⟨n, rfl⟩ : ∃ n : Nat, N = n := ⟨N.toNat, by omega⟩
  obtain ⟨a, ha⟩ : ∃ a : Nat, v % 18446744073709551616 = a := ⟨(v % 18446744073709551616).toNat, by omega⟩
  have hr : tch v n = ((a % n : Nat) : Int) := by unfold tch; rw [ha]; omega
  have hlt : a % n < n := Nat.mod_lt _ (by omega)
  rw [hr]
  refine acall_rule env [0, 1, 4] Tryz.func18 rfl rfl rfl rfl ?_
  conv => whnf
  refine modu64 a ha ?_
  conv => whnf
  refine sumu64 n rfl (by omega) ?_
  conv => whnf
  refine ⟨(by (try simp only [true_and, and_true, Nat.sub_zero, Nat.zero_add, Int.toNat_natCast]) <;> omega), ?_⟩
  conv => whnf
  refine remN ?_
  conv => whnf
  refine sumi64 (a % n) rfl (by omega) ?_
  conv => whnf
  (repeat (refine ⟨by kernel_rfl, ?_⟩; (conv => whnf)))
  refine ⟨(by (try simp only [true_and, and_true, Nat.sub_zero, Nat.zero_add, Int.toNat_natCast]) <;> omega), ?_⟩
  exact .refl _

/-- the tape's cells: the numbers, and how many are used -/
def tapeL (g : Nat → Int) (n i : Nat) : List AV := [.f (.sl 1 (fun j => [.int .i64 (g j)]) n none), .f (.int .i64 i)]
/-- what comes next, and how many are used then -/
def tnext (g : Nat → Int) (n i : Nat) (N : Int) : Int := if i < n then tch (g i) N else 0
def tstep (n i : Nat) : Nat := if i < n then i + 1 else i
theorem tnext_range (g : Nat → Int) (n i : Nat) {N : Int} (h : 1 ≤ N) : 0 ≤ tnext g n i N ∧ tnext g n i N < N := by
  unfold tnext
  split
  · exact tch_range _ h
  · omega
theorem gNew_ok (g : Nat → Int) (n : Nat) : RCall Tryz.prog 5 [.f (.sl 1 (fun j => [.int .i64 (g j)]) n none)] [] (.lptr 2000000 1 2 0 0) [(2000000, 1, .vr (tapeL g n 0))] := by
  refine rcall_rule env [.lptr 2000000 1 2 0 0] [0, 2] Tryz.func5 rfl rfl rfl rfl ?_
  conv => whnf
  refine ⟨[5], ?_⟩
  conv => whnf
  exact ⟨⟨⟨rfl, rfl⟩, trivial⟩, ⟨⟨.refl _, .refl _, trivial⟩, trivial⟩, rfl⟩
theorem gNext_ok (g : Nat → Int) (n i : Nat) (N : Int) (h1 : 1 ≤ N) (h2 : N ≤ 9223372036854775807) (hn : n ≤ 1099511627776) (hi : i ≤ n) :
    RCall Tryz.prog 7 [.lptr 1000000 1 2 0 0, .f (.int .i64 N)] [(1000000, 1, .vr (tapeL g n i))] (.f (.int .i64 (tnext g n i N))) [(1000000, 1, .vr (tapeL g n (tstep n i)))] := by
  unfold tnext tstep
  by_cases h : i < n
  · rw [if_pos h, if_pos h]
    have m1 := Mod_ok (g i) N h1 h2
    refine rcall_rule env [.f (.int .i64 (tch (g i) N))] [0, 1, 4, 14] Tryz.func7 rfl rfl rfl rfl ?_
    conv => whnf
    refine ⟨by kernel_rfl, ?_⟩
    conv => whnf
    refine splF (by simp only [decide_eq_true_eq, decide_eq_false_iff_not, Bool.not_eq_true', Bool.not_eq_false', gt_iff_lt, ge_iff_le] <;> omega) ?_
    conv => whnf
    refine sumi64 (i + 1) (by omega) (by omega) ?_
    conv => whnf
    refine sumi64 i (by omega) (by omega) ?_
    conv => whnf
    refine ⟨(by (try simp only [true_and, and_true, Nat.sub_zero, Nat.zero_add, Int.toNat_natCast]) <;> omega), ?_⟩
    conv => whnf
    first | refine callF m1 ⟨.refl _, .refl _, trivial⟩ (by trivial) rfl ?_ | ((repeat (refine ⟨by kernel_rfl, ?_⟩; (conv => whnf))); refine callF m1 ⟨.refl _, .refl _, trivial⟩ (by trivial) rfl ?_)
    conv => whnf
    refine ⟨by kernel_rfl, ?_⟩
    conv => whnf
    refine ⟨[1000000], ?_⟩
    conv => whnf
    exact ⟨⟨.refl _, trivial⟩, ⟨⟨.refl _, .refl _, trivial⟩, trivial⟩, rfl⟩
  · rw [if_neg h, if_neg h]
    refine rcall_rule env [.f (.int .i64 0)] [0, 1, 4, 14] Tryz.func7 rfl rfl rfl rfl ?_
    conv => whnf
    refine ⟨by kernel_rfl, ?_⟩
    conv => whnf
    refine splT (by simp only [decide_eq_true_eq, decide_eq_false_iff_not, Bool.not_eq_true', Bool.not_eq_false', gt_iff_lt, ge_iff_le] <;> omega) ?_
    conv => whnf
    refine ⟨[1000000], ?_⟩
    conv => whnf
    exact ⟨⟨.refl _, trivial⟩, ⟨⟨.refl _, .refl _, trivial⟩, trivial⟩, rfl⟩
end Go.Abs

/- The reference's Simplest. -/
set_option autoImplicit false
set_option maxHeartbeats 4000000
set_option maxRecDepth 10000
set_option linter.unusedVariables false
set_option linter.unusedSimpArgs false
namespace Go.Abs
open Go Go.Proofs

theorem divInt_mul {n d : Int} (hd : 0 < d) : Rat.divInt n d * (d : Rat) = n := by
  rw [Rat.divInt_eq_div]
  exact Rat.div_mul_cancel (fun h => by have := Rat.intCast_eq_zero_iff.1 h; omega)
theorem intCast_pos {d : Int} (hd : 0 < d) : (0 : Rat) < d := by
  have := Rat.intCast_lt_intCast.2 hd
  exact this
theorem le_of_mul {a b : Rat} {d : Int} (hd : 0 < d) (h : a * d ≤ b * d) : a ≤ b :=
  Rat.not_lt.1 fun h' => by
    have h1 : b * d < a * d := (Rat.mul_lt_mul_right (intCast_pos hd)).2 h'
    exact absurd h (Rat.not_le.2 h1)
theorem mul_of_le {a b : Rat} {d : Int} (hd : 0 < d) (h : a ≤ b) : a * d ≤ b * d := Rat.mul_le_mul_of_nonneg_right h (Rat.le_of_lt (intCast_pos hd))
/-- no number of the range has a lesser denominator -/
theorem ref_none {lo hi : Rat} (hl : lo ≤ hi) {d : Int} (h1 : 1 ≤ d) (h2 : d < (simV lo hi).den) : (hi * d).floor < (lo * d).ceil := by
  rcases Int.lt_or_le (hi * d).floor (lo * d).ceil with h | h
  · exact h
  · have a1 := Rat.le_floor_iff.1 h
    have a2 : lo * d ≤ ((lo * d).ceil : Int) := Rat.le_ceil
    have e := divInt_mul (n := (lo * d).ceil) (show 0 < d by omega)
    rw [← e] at a1 a2
    have b1 := le_of_mul (show 0 < d by omega) a1
    have b2 := le_of_mul (show 0 < d by omega) a2
    have := ((simV_spec hl).2.2 _ b2 b1).1
    have := divInt_den_le (p := (lo * d).ceil) (show 0 < d by omega)
    omega
/-- the one that is chosen -/
def refN (low high : Int) : Int := if low < 0 ∧ 0 ≤ high then 0 else if high < 0 then high else low
theorem num_den (q : Rat) : q * ((q.den : Nat) : Int) = ((q.num : Int) : Rat) := by
  have e := Rat.mkRat_self q
  have h := divInt_mul (n := q.num) (d := (q.den : Nat)) (by have := q.den_nz; omega)
  rw [Rat.divInt_ofNat, e] at h
  exact h
theorem ref_some {lo hi : Rat} (hl : lo ≤ hi) {d : Int} (h : d = (simV lo hi).den) : (lo * d).ceil ≤ (hi * d).floor ∧ Rat.divInt (refN (lo * d).ceil (hi * d).floor) d = simV lo hi := by
  obtain ⟨v1, v2, v3⟩ := simV_spec hl
  have hd : 0 < d := by have := (simV lo hi).den_nz; omega
  have hn := num_den (simV lo hi)
  rw [← h] at hn
  have a1 := mul_of_le hd v1
  have a2 := mul_of_le hd v2
  rw [hn] at a1 a2
  have c1 : (lo * d).ceil ≤ (simV lo hi).num := Rat.ceil_le_iff.2 a1
  have c2 : (simV lo hi).num ≤ (hi * d).floor := Rat.le_floor_iff.2 a2
  refine ⟨by omega, ?_⟩
  -- every number between has this denominator at least
  have key : ∀ n : Int, (lo * d).ceil ≤ n → n ≤ (hi * d).floor → (simV lo hi).num.natAbs ≤ n.natAbs := by
    intro n g1 g2
    have p1 := Rat.ceil_le_iff.1 g1
    have p2 := Rat.le_floor_iff.1 g2
    have e := divInt_mul (n := n) hd
    rw [← e] at p1 p2
    obtain ⟨q1, q2⟩ := v3 _ (le_of_mul hd p1) (le_of_mul hd p2)
    refine Nat.le_trans q2 ?_
    obtain ⟨D, rfl⟩ : ∃ D : Nat, d = D := ⟨d.toNat, by omega⟩
    rw [Rat.divInt_ofNat, mk_num_abs _ (by omega)]
    exact Nat.div_le_self _ _
  have hr : refN (lo * d).ceil (hi * d).floor = (simV lo hi).num := by
    unfold refN
    split
    · have := key 0 (by omega) (by omega); omega
    · split
      · have := key (hi * d).floor (by omega) (by omega); omega
      · have := key (lo * d).ceil (by omega) (by omega); omega
  rw [hr, h, Rat.divInt_ofNat, Rat.mkRat_self]

theorem refSimplest_ok {x y : AV} {lo hi : Rat} {s : Nat} (hx : IsR x lo s) (hy : IsR y hi s) (hs : s ≤ 1048576) : ACall Tryz.prog 9 [x, y] (simRes lo hi) := by
  have c1 := sCompare_ok hx hy (by omega)
  have zx := hx.size
  have zy := hy.size
  have o1 := rFromInt_ok 1 (by decide)
  have o0 := rFromInt_ok 0 (by decide)
  have h1 : 1 ≤ s := by cases hx; assumption
  have hq0 : ∃ xs ys, x = .agg xs ∧ y = .agg ys ∧ IsR (.agg xs) lo s ∧ IsR (.agg ys) hi s := by
    cases hx with | mk na ga la ga' la' _ a1 a2 a3 a4 a5 => cases hy with | mk nb gb lb gb' lb' _ b1 b2 b3 b4 b5 => exact ⟨_, _, rfl, rfl, .mk _ _ _ _ _ _ a1 a2 a3 a4 a5, .mk _ _ _ _ _ _ b1 b2 b3 b4 b5⟩
  obtain ⟨na, ga, la, ga', la', _, hga, hga', hna, hna', _⟩ := hx
  obtain ⟨nb, gb, lb, gb', lb', _, hgb, hgb', hnb, hnb', _⟩ := hy
  obtain ⟨xs, ys, ex, ey, rx, ry⟩ := hq0
  cases ex; cases ey
  generalize mkRat (ival na (nval ga la)) (nval ga' la') = lo at *
  generalize mkRat (ival nb (nval gb lb)) (nval gb' lb') = hi at *
  by_cases h2 : hi < lo
  · rw [simRes, if_pos h2]
    rw [rcmp_gt h2] at c1
    refine acall_rule env [0, 1, 2, 3, 4, 5, 6, 7, 8, 9, 13, 32, 41, 45, 50] Tryz.func9 rfl rfl rfl rfl ?_
    conv => whnf
    first | refine callF c1 ⟨.refl _, .refl _, trivial⟩ (by trivial) rfl ?_ | ((repeat (refine ⟨by kernel_rfl, ?_⟩; (conv => whnf))); refine callF c1 ⟨.refl _, .refl _, trivial⟩ (by trivial) rfl ?_)
    conv => whnf
    refine ⟨(by (try simp only [true_and, and_true, Nat.sub_zero, Nat.zero_add, Int.toNat_natCast]) <;> omega), ?_⟩
    exact .tup ⟨.rat0, .refl _, trivial⟩
  have hl : lo ≤ hi := Rat.not_lt.1 h2
  rw [simRes_eq lo hi hl]
  have hc := rcmp_le.2 hl
  have hD : (simV lo hi).den ≤ lo.den := ((simV_spec hl).2.2 lo Rat.le_refl hl).1
  have hD0 := (simV lo hi).den_nz
  have hnone := fun d h1 h2 => ref_none hl (d := d) h1 h2
  have hsome := fun d h1 => ref_some hl (d := d) h1
  obtain ⟨V, hV⟩ : ∃ V, simV lo hi = V := ⟨_, rfl⟩
  rw [hV] at hD hD0 hnone hsome ⊢
  refine acall_rule env [0, 1, 2, 3, 4, 5, 6, 7, 8, 9, 13, 32, 41, 45, 50] Tryz.func9 rfl rfl rfl rfl ?_
  conv => whnf
  first | refine callF c1 ⟨.refl _, .refl _, trivial⟩ (by trivial) rfl ?_ | ((repeat (refine ⟨by kernel_rfl, ?_⟩; (conv => whnf))); refine callF c1 ⟨.refl _, .refl _, trivial⟩ (by trivial) rfl ?_)
  conv => whnf
  refine splF (decide_eq_false (by omega)) ?_
  conv => whnf
  first | refine callF o1 ⟨.refl _, trivial⟩ (by trivial) rfl ?_ | ((repeat (refine ⟨by kernel_rfl, ?_⟩; (conv => whnf))); refine callF o1 ⟨.refl _, trivial⟩ (by trivial) rfl ?_)
  conv => whnf
  refine loop_mod [2, 3, 4, 5, 6] [2, 3, 4, 6] [4, 5] [4]
    (fun μ fr hp => ∃ d : Int, 1 ≤ d ∧ d ≤ V.den ∧ fr = [bp3 2, bp3 3, bp3 4, (5, .f (.bool false)), bp2 6] ∧
      hp = [bx3 2 [.f (.bool na), raw ga la, raw ga' la'], bx3 3 [.f (.bool nb), raw gb lb, raw gb' lb'], bx3 4 zR, bx3 6 [.f (.bool (decide (d < 0))), nat d.natAbs]] ∧ μ = V.den - d.toNat)
    (fun e fr hp => e = .ret ∧ fr = [bp3 4, (5, .f (.bool true))] ∧ hp = [bx3 4 (ratL V)])
    ⟨_, _, _, _, rfl, .refl _, 1, by omega, by omega, rfl, rfl, rfl⟩ ?_ ?_
  · rintro _ _ _ ⟨rfl, rfl, rfl⟩
    conv => whnf
    (repeat (refine ⟨by kernel_rfl, ?_⟩; (conv => whnf)))
    refine ⟨(by (try simp only [true_and, and_true, Nat.sub_zero, Nat.zero_add, Int.toNat_natCast]) <;> omega), ?_⟩
    exact .refl _
  rintro μ _ _ ⟨d, hd1, hd2, rfl, rfl, rfl⟩
  have zd : isz d ≤ s := Nat.le_trans (size_mono (show d.natAbs ≤ lo.den by omega)) (rsz_den zx)
  have w1 := sWhole_ok (isI_int d zd) (by omega)
  have rd := isR_rat (d : Rat) (rsz_int d zd h1)
  have m1 := sMul_ok rx rd (by omega)
  have m2 := sMul_ok ry rd (by omega)
  have zm1 := rsz_mul zx (rsz_int d zd h1)
  have zm2 := rsz_mul zy (rsz_int d zd h1)
  have e1 := sCeil_ok (isR_rat _ zm1) (by omega)
  have e2 := sFloor_ok (isR_rat _ zm2) (by omega)
  have y1 := rsz_ceil _ zm1
  have y2 := rsz_floor _ zm2
  have k1 := rCompare_ok (isI_int _ y1) (isI_int _ y2) (by omega) (by omega)
  have g1 := rSign_ok (isI_int _ y1) (by omega)
  have g2 := rSign_ok (isI_int _ y2) (by omega)
  have ad := rAdd_ok (isI_int d zd) (isI_int 1 (s := 1) (by decide)) (by omega) (by omega)
  have hno := hnone d hd1
  have hso := hsome d
  have mk := fun n (hn : isz n ≤ s + s) => sMake_ok (isI_int n hn) (isI_int d (Nat.le_trans zd (by omega))) (show s + s ≤ 4398046500000 by omega) (show s + s ≤ 4398046500000 by omega)
  generalize (lo * d).ceil = low at *
  generalize (hi * d).floor = high at *
  rcases Int.lt_or_eq_of_le hd2 with hlt | heq
  · have hh := hno hlt
    rw [icmp, if_neg (by omega), if_neg (by omega)] at k1
    conv => whnf
    first | refine callF w1 ⟨.refl _, trivial⟩ (by trivial) rfl ?_ | ((repeat (refine ⟨by kernel_rfl, ?_⟩; (conv => whnf))); refine callF w1 ⟨.refl _, trivial⟩ (by trivial) rfl ?_)
    conv => whnf
    first | refine callF m1 ⟨.refl _, .refl _, trivial⟩ (by trivial) rfl ?_ | ((repeat (refine ⟨by kernel_rfl, ?_⟩; (conv => whnf))); refine callF m1 ⟨.refl _, .refl _, trivial⟩ (by trivial) rfl ?_)
    conv => whnf
    first | refine callF e1 ⟨.refl _, trivial⟩ (by trivial) rfl ?_ | ((repeat (refine ⟨by kernel_rfl, ?_⟩; (conv => whnf))); refine callF e1 ⟨.refl _, trivial⟩ (by trivial) rfl ?_)
    conv => whnf
    refine ⟨by kernel_rfl, ?_⟩
    conv => whnf
    first | refine callF w1 ⟨.refl _, trivial⟩ (by trivial) rfl ?_ | ((repeat (refine ⟨by kernel_rfl, ?_⟩; (conv => whnf))); refine callF w1 ⟨.refl _, trivial⟩ (by trivial) rfl ?_)
    conv => whnf
    first | refine callF m2 ⟨.refl _, .refl _, trivial⟩ (by trivial) rfl ?_ | ((repeat (refine ⟨by kernel_rfl, ?_⟩; (conv => whnf))); refine callF m2 ⟨.refl _, .refl _, trivial⟩ (by trivial) rfl ?_)
    conv => whnf
    first | refine callF e2 ⟨.refl _, trivial⟩ (by trivial) rfl ?_ | ((repeat (refine ⟨by kernel_rfl, ?_⟩; (conv => whnf))); refine callF e2 ⟨.refl _, trivial⟩ (by trivial) rfl ?_)
    conv => whnf
    refine ⟨by kernel_rfl, ?_⟩
    conv => whnf
    first | refine callF k1 ⟨.refl _, .refl _, trivial⟩ (by trivial) rfl ?_ | ((repeat (refine ⟨by kernel_rfl, ?_⟩; (conv => whnf))); refine callF k1 ⟨.refl _, .refl _, trivial⟩ (by trivial) rfl ?_)
    conv => whnf
    first | refine callF o1 ⟨.refl _, trivial⟩ (by trivial) rfl ?_ | ((repeat (refine ⟨by kernel_rfl, ?_⟩; (conv => whnf))); refine callF o1 ⟨.refl _, trivial⟩ (by trivial) rfl ?_)
    conv => whnf
    first | refine callF ad ⟨.refl _, .refl _, trivial⟩ (by trivial) rfl ?_ | ((repeat (refine ⟨by kernel_rfl, ?_⟩; (conv => whnf))); refine callF ad ⟨.refl _, .refl _, trivial⟩ (by trivial) rfl ?_)
    conv => whnf
    refine ⟨by kernel_rfl, ?_⟩
    conv => whnf
    exact ⟨_, by omega, _, _, _, rfl, .refl _, d + 1, by omega, by omega, rfl, rfl, rfl⟩
  · obtain ⟨q1, q2⟩ := hso heq
    have hk : ¬ icmp low high > 0 := by unfold icmp; (repeat' split) <;> omega
    generalize icmp low high = K at *
    unfold refN at q2
    have sg : ∀ z : Int, (sgn z < 0 ↔ z < 0) ∧ (sgn z ≥ 0 ↔ 0 ≤ z) := by intro z; unfold sgn; constructor <;> (repeat' split) <;> omega
    by_cases hn1 : low < 0
    · by_cases hn2 : 0 ≤ high
      · rw [if_pos ⟨hn1, hn2⟩] at q2
        have mk1 := mk 0 (Nat.zero_le _)
        rw [q2] at mk1
        conv => whnf
        first | refine callF w1 ⟨.refl _, trivial⟩ (by trivial) rfl ?_ | ((repeat (refine ⟨by kernel_rfl, ?_⟩; (conv => whnf))); refine callF w1 ⟨.refl _, trivial⟩ (by trivial) rfl ?_)
        conv => whnf
        first | refine callF m1 ⟨.refl _, .refl _, trivial⟩ (by trivial) rfl ?_ | ((repeat (refine ⟨by kernel_rfl, ?_⟩; (conv => whnf))); refine callF m1 ⟨.refl _, .refl _, trivial⟩ (by trivial) rfl ?_)
        conv => whnf
        first | refine callF e1 ⟨.refl _, trivial⟩ (by trivial) rfl ?_ | ((repeat (refine ⟨by kernel_rfl, ?_⟩; (conv => whnf))); refine callF e1 ⟨.refl _, trivial⟩ (by trivial) rfl ?_)
        conv => whnf
        refine ⟨by kernel_rfl, ?_⟩
        conv => whnf
        first | refine callF w1 ⟨.refl _, trivial⟩ (by trivial) rfl ?_ | ((repeat (refine ⟨by kernel_rfl, ?_⟩; (conv => whnf))); refine callF w1 ⟨.refl _, trivial⟩ (by trivial) rfl ?_)
        conv => whnf
        first | refine callF m2 ⟨.refl _, .refl _, trivial⟩ (by trivial) rfl ?_ | ((repeat (refine ⟨by kernel_rfl, ?_⟩; (conv => whnf))); refine callF m2 ⟨.refl _, .refl _, trivial⟩ (by trivial) rfl ?_)
        conv => whnf
        first | refine callF e2 ⟨.refl _, trivial⟩ (by trivial) rfl ?_ | ((repeat (refine ⟨by kernel_rfl, ?_⟩; (conv => whnf))); refine callF e2 ⟨.refl _, trivial⟩ (by trivial) rfl ?_)
        conv => whnf
        refine ⟨by kernel_rfl, ?_⟩
        conv => whnf
        first | refine callF k1 ⟨.refl _, .refl _, trivial⟩ (by trivial) rfl ?_ | ((repeat (refine ⟨by kernel_rfl, ?_⟩; (conv => whnf))); refine callF k1 ⟨.refl _, .refl _, trivial⟩ (by trivial) rfl ?_)
        conv => whnf
        refine splF (decide_eq_false hk) ?_
        conv => whnf
        first | refine callF g1 ⟨.refl _, trivial⟩ (by trivial) rfl ?_ | ((repeat (refine ⟨by kernel_rfl, ?_⟩; (conv => whnf))); refine callF g1 ⟨.refl _, trivial⟩ (by trivial) rfl ?_)
        conv => whnf
        refine splT (decide_eq_true ((sg low).1.2 hn1)) ?_
        conv => whnf
        first | refine callF g2 ⟨.refl _, trivial⟩ (by trivial) rfl ?_ | ((repeat (refine ⟨by kernel_rfl, ?_⟩; (conv => whnf))); refine callF g2 ⟨.refl _, trivial⟩ (by trivial) rfl ?_)
        conv => whnf
        refine splT (decide_eq_true ((sg high).2.2 hn2)) ?_
        conv => whnf
        first | refine callF o0 ⟨.refl _, trivial⟩ (by trivial) rfl ?_ | ((repeat (refine ⟨by kernel_rfl, ?_⟩; (conv => whnf))); refine callF o0 ⟨.refl _, trivial⟩ (by trivial) rfl ?_)
        conv => whnf
        first | refine callF mk1 ⟨.refl _, .refl _, trivial⟩ (by trivial) rfl ?_ | ((repeat (refine ⟨by kernel_rfl, ?_⟩; (conv => whnf))); refine callF mk1 ⟨.refl _, .refl _, trivial⟩ (by trivial) rfl ?_)
        conv => whnf
        exact ⟨_, _, _, rfl, .refl _, rfl, rfl, rfl⟩
      · rw [if_neg (by omega), if_pos (by omega)] at q2
        have mk1 := mk high y2
        rw [q2] at mk1
        conv => whnf
        first | refine callF w1 ⟨.refl _, trivial⟩ (by trivial) rfl ?_ | ((repeat (refine ⟨by kernel_rfl, ?_⟩; (conv => whnf))); refine callF w1 ⟨.refl _, trivial⟩ (by trivial) rfl ?_)
        conv => whnf
        first | refine callF m1 ⟨.refl _, .refl _, trivial⟩ (by trivial) rfl ?_ | ((repeat (refine ⟨by kernel_rfl, ?_⟩; (conv => whnf))); refine callF m1 ⟨.refl _, .refl _, trivial⟩ (by trivial) rfl ?_)
        conv => whnf
        first | refine callF e1 ⟨.refl _, trivial⟩ (by trivial) rfl ?_ | ((repeat (refine ⟨by kernel_rfl, ?_⟩; (conv => whnf))); refine callF e1 ⟨.refl _, trivial⟩ (by trivial) rfl ?_)
        conv => whnf
        refine ⟨by kernel_rfl, ?_⟩
        conv => whnf
        first | refine callF w1 ⟨.refl _, trivial⟩ (by trivial) rfl ?_ | ((repeat (refine ⟨by kernel_rfl, ?_⟩; (conv => whnf))); refine callF w1 ⟨.refl _, trivial⟩ (by trivial) rfl ?_)
        conv => whnf
        first | refine callF m2 ⟨.refl _, .refl _, trivial⟩ (by trivial) rfl ?_ | ((repeat (refine ⟨by kernel_rfl, ?_⟩; (conv => whnf))); refine callF m2 ⟨.refl _, .refl _, trivial⟩ (by trivial) rfl ?_)
        conv => whnf
        first | refine callF e2 ⟨.refl _, trivial⟩ (by trivial) rfl ?_ | ((repeat (refine ⟨by kernel_rfl, ?_⟩; (conv => whnf))); refine callF e2 ⟨.refl _, trivial⟩ (by trivial) rfl ?_)
        conv => whnf
        refine ⟨by kernel_rfl, ?_⟩
        conv => whnf
        first | refine callF k1 ⟨.refl _, .refl _, trivial⟩ (by trivial) rfl ?_ | ((repeat (refine ⟨by kernel_rfl, ?_⟩; (conv => whnf))); refine callF k1 ⟨.refl _, .refl _, trivial⟩ (by trivial) rfl ?_)
        conv => whnf
        refine splF (decide_eq_false hk) ?_
        conv => whnf
        first | refine callF g1 ⟨.refl _, trivial⟩ (by trivial) rfl ?_ | ((repeat (refine ⟨by kernel_rfl, ?_⟩; (conv => whnf))); refine callF g1 ⟨.refl _, trivial⟩ (by trivial) rfl ?_)
        conv => whnf
        refine splT (decide_eq_true ((sg low).1.2 hn1)) ?_
        conv => whnf
        first | refine callF g2 ⟨.refl _, trivial⟩ (by trivial) rfl ?_ | ((repeat (refine ⟨by kernel_rfl, ?_⟩; (conv => whnf))); refine callF g2 ⟨.refl _, trivial⟩ (by trivial) rfl ?_)
        conv => whnf
        refine splF (decide_eq_false (fun h => hn2 ((sg high).2.1 h))) ?_
        conv => whnf
        first | refine callF g2 ⟨.refl _, trivial⟩ (by trivial) rfl ?_ | ((repeat (refine ⟨by kernel_rfl, ?_⟩; (conv => whnf))); refine callF g2 ⟨.refl _, trivial⟩ (by trivial) rfl ?_)
        conv => whnf
        refine splT (decide_eq_true ((sg high).1.2 (by omega))) ?_
        conv => whnf
        first | refine callF mk1 ⟨.refl _, .refl _, trivial⟩ (by trivial) rfl ?_ | ((repeat (refine ⟨by kernel_rfl, ?_⟩; (conv => whnf))); refine callF mk1 ⟨.refl _, .refl _, trivial⟩ (by trivial) rfl ?_)
        conv => whnf
        exact ⟨_, _, _, rfl, .refl _, rfl, rfl, rfl⟩
    · rw [if_neg (by omega), if_neg (by omega)] at q2
      have mk1 := mk low y1
      rw [q2] at mk1
      conv => whnf
      first | refine callF w1 ⟨.refl _, trivial⟩ (by trivial) rfl ?_ | ((repeat (refine ⟨by kernel_rfl, ?_⟩; (conv => whnf))); refine callF w1 ⟨.refl _, trivial⟩ (by trivial) rfl ?_)
      conv => whnf
      first | refine callF m1 ⟨.refl _, .refl _, trivial⟩ (by trivial) rfl ?_ | ((repeat (refine ⟨by kernel_rfl, ?_⟩; (conv => whnf))); refine callF m1 ⟨.refl _, .refl _, trivial⟩ (by trivial) rfl ?_)
      conv => whnf
      first | refine callF e1 ⟨.refl _, trivial⟩ (by trivial) rfl ?_ | ((repeat (refine ⟨by kernel_rfl, ?_⟩; (conv => whnf))); refine callF e1 ⟨.refl _, trivial⟩ (by trivial) rfl ?_)
      conv => whnf
      refine ⟨by kernel_rfl, ?_⟩
      conv => whnf
      first | refine callF w1 ⟨.refl _, trivial⟩ (by trivial) rfl ?_ | ((repeat (refine ⟨by kernel_rfl, ?_⟩; (conv => whnf))); refine callF w1 ⟨.refl _, trivial⟩ (by trivial) rfl ?_)
      conv => whnf
      first | refine callF m2 ⟨.refl _, .refl _, trivial⟩ (by trivial) rfl ?_ | ((repeat (refine ⟨by kernel_rfl, ?_⟩; (conv => whnf))); refine callF m2 ⟨.refl _, .refl _, trivial⟩ (by trivial) rfl ?_)
      conv => whnf
      first | refine callF e2 ⟨.refl _, trivial⟩ (by trivial) rfl ?_ | ((repeat (refine ⟨by kernel_rfl, ?_⟩; (conv => whnf))); refine callF e2 ⟨.refl _, trivial⟩ (by trivial) rfl ?_)
      conv => whnf
      refine ⟨by kernel_rfl, ?_⟩
      conv => whnf
      first | refine callF k1 ⟨.refl _, .refl _, trivial⟩ (by trivial) rfl ?_ | ((repeat (refine ⟨by kernel_rfl, ?_⟩; (conv => whnf))); refine callF k1 ⟨.refl _, .refl _, trivial⟩ (by trivial) rfl ?_)
      conv => whnf
      refine splF (decide_eq_false hk) ?_
      conv => whnf
      first | refine callF g1 ⟨.refl _, trivial⟩ (by trivial) rfl ?_ | ((repeat (refine ⟨by kernel_rfl, ?_⟩; (conv => whnf))); refine callF g1 ⟨.refl _, trivial⟩ (by trivial) rfl ?_)
      conv => whnf
      refine splF (decide_eq_false (fun h => hn1 ((sg low).1.1 h))) ?_
      conv => whnf
      first | refine callF g2 ⟨.refl _, trivial⟩ (by trivial) rfl ?_ | ((repeat (refine ⟨by kernel_rfl, ?_⟩; (conv => whnf))); refine callF g2 ⟨.refl _, trivial⟩ (by trivial) rfl ?_)
      conv => whnf
      refine splF (decide_eq_false (fun h => by have := (sg high).1.1 h; omega)) ?_
      conv => whnf
      first | refine callF mk1 ⟨.refl _, .refl _, trivial⟩ (by trivial) rfl ?_ | ((repeat (refine ⟨by kernel_rfl, ?_⟩; (conv => whnf))); refine callF mk1 ⟨.refl _, .refl _, trivial⟩ (by trivial) rfl ?_)
      conv => whnf
      exact ⟨_, _, _, rfl, .refl _, rfl, rfl, rfl⟩

theorem ApproxSimplest_ok (g : Nat → Int) (n : Nat) (hn : n ≤ 1099511627776) (hg : ∀ i, i < n → -9223372036854775808 ≤ g i ∧ g i ≤ 9223372036854775807) : ACall Tryz.prog 3 [.f (.sl 1 (fun j => [.int .i64 (g j)]) n none)] (.f (.bool true)) := by
  have nw := gNew_ok g n
  have t1 := gNext_ok g n 0 400 (by decide) (by decide) hn (Nat.zero_le _)
  obtain ⟨r1, r2⟩ := tnext_range g n 0 (N := 400) (by decide)
  generalize tnext g n 0 400 = c1 at *
  have hi1 : tstep n 0 ≤ n := by unfold tstep; split <;> omega
  generalize tstep n 0 = i1 at *
  have t2 := gNext_ok g n i1 60 (by decide) (by decide) hn hi1
  obtain ⟨r3, r4⟩ := tnext_range g n i1 (N := 60) (by decide)
  generalize tnext g n i1 60 = c2 at *
  have hi2 : tstep n i1 ≤ n := by unfold tstep; split <;> omega
  generalize tstep n i1 = i2 at *
  have t3 := gNext_ok g n i2 400 (by decide) (by decide) hn hi2
  obtain ⟨r5, r6⟩ := tnext_range g n i2 (N := 400) (by decide)
  generalize tnext g n i2 400 = c3 at *
  have hi3 : tstep n i2 ≤ n := by unfold tstep; split <;> omega
  generalize tstep n i2 = i3 at *
  have t4 := gNext_ok g n i3 60 (by decide) (by decide) hn hi3
  obtain ⟨r7, r8⟩ := tnext_range g n i3 (N := 60) (by decide)
  generalize tnext g n i3 60 = c4 at *
  have o1 := sOf_ok (c1 - 200) (1 + c2) (by omega) (by omega)
  have o2 := sOf_ok (c3 - 200) (1 + c4) (by omega) (by omega)
  have z1 := rsz_divInt (n := c1 - 200) (d := 1 + c2) (s := 2) (isz_small (by omega)) (isz_small (by omega)) (by omega)
  have z2 := rsz_divInt (n := c3 - 200) (d := 1 + c4) (s := 2) (isz_small (by omega)) (isz_small (by omega)) (by omega)
  generalize Rat.divInt (c1 - 200) (1 + c2) = lo at *
  generalize Rat.divInt (c3 - 200) (1 + c4) = hi at *
  have s1 := Simplest_ok (isR_rat _ z1) (isR_rat _ z2) (by omega)
  have s2 := refSimplest_ok (isR_rat _ z1) (isR_rat _ z2) (by omega)
  by_cases hl : lo ≤ hi
  · have e1 := sEqual_same _ (Nat.le_trans (simV_sz hl z1 z2) (by omega))
    rw [simRes_eq lo hi hl] at s1 s2
    refine acall_rule env [0, 2, 3, 4, 5, 6, 7, 8, 9] Tryz.func3 rfl rfl rfl rfl ?_
    conv => whnf
    refine callR [] nw ?_
    conv => whnf
    refine ⟨⟨.refl _, trivial⟩, trivial, ?_⟩
    conv => whnf
    refine callR [11] t1 ?_
    conv => whnf
    refine ⟨⟨⟨rfl, rfl⟩, .refl _, trivial⟩, ⟨⟨.refl _, .refl _, trivial⟩, trivial⟩, ?_⟩
    conv => whnf
    refine fit64 (by omega) ?_
    conv => whnf
    refine callR [11] t2 ?_
    conv => whnf
    refine ⟨⟨⟨rfl, rfl⟩, .refl _, trivial⟩, ⟨⟨.refl _, .refl _, trivial⟩, trivial⟩, ?_⟩
    conv => whnf
    refine fit64 (by omega) ?_
    conv => whnf
    first | refine callF o1 ⟨.refl _, .refl _, trivial⟩ (by trivial) rfl ?_ | ((repeat (refine ⟨by kernel_rfl, ?_⟩; (conv => whnf))); refine callF o1 ⟨.refl _, .refl _, trivial⟩ (by trivial) rfl ?_)
    conv => whnf
    refine callR [11] t3 ?_
    conv => whnf
    refine ⟨⟨⟨rfl, rfl⟩, .refl _, trivial⟩, ⟨⟨.refl _, .refl _, trivial⟩, trivial⟩, ?_⟩
    conv => whnf
    refine fit64 (by omega) ?_
    conv => whnf
    refine callR [11] t4 ?_
    conv => whnf
    refine ⟨⟨⟨rfl, rfl⟩, .refl _, trivial⟩, ⟨⟨.refl _, .refl _, trivial⟩, trivial⟩, ?_⟩
    conv => whnf
    refine fit64 (by omega) ?_
    conv => whnf
    first | refine callF o2 ⟨.refl _, .refl _, trivial⟩ (by trivial) rfl ?_ | ((repeat (refine ⟨by kernel_rfl, ?_⟩; (conv => whnf))); refine callF o2 ⟨.refl _, .refl _, trivial⟩ (by trivial) rfl ?_)
    conv => whnf
    first | refine callF s1 ⟨.refl _, .refl _, trivial⟩ (by trivial) rfl ?_ | ((repeat (refine ⟨by kernel_rfl, ?_⟩; (conv => whnf))); refine callF s1 ⟨.refl _, .refl _, trivial⟩ (by trivial) rfl ?_)
    conv => whnf
    first | refine callF s2 ⟨.refl _, .refl _, trivial⟩ (by trivial) rfl ?_ | ((repeat (refine ⟨by kernel_rfl, ?_⟩; (conv => whnf))); refine callF s2 ⟨.refl _, .refl _, trivial⟩ (by trivial) rfl ?_)
    conv => whnf
    first | refine callF awake5_ok trivial (by trivial) rfl ?_ | ((repeat (refine ⟨by kernel_rfl, ?_⟩; (conv => whnf))); refine callF awake5_ok trivial (by trivial) rfl ?_)
    conv => whnf
    first | refine callF e1 ⟨.refl _, .refl _, trivial⟩ (by trivial) rfl ?_ | ((repeat (refine ⟨by kernel_rfl, ?_⟩; (conv => whnf))); refine callF e1 ⟨.refl _, .refl _, trivial⟩ (by trivial) rfl ?_)
    conv => whnf
    (repeat (refine ⟨by kernel_rfl, ?_⟩; (conv => whnf)))
    refine ⟨(by (try simp only [true_and, and_true, Nat.sub_zero, Nat.zero_add, Int.toNat_natCast]) <;> omega), ?_⟩
    exact .refl _
  · have e1 := sEqual_rat0
    rw [simRes, if_pos (Rat.not_le.1 hl)] at s1 s2
    refine acall_rule env [0, 2, 3, 4, 5, 6, 7, 8, 9] Tryz.func3 rfl rfl rfl rfl ?_
    conv => whnf
    refine callR [] nw ?_
    conv => whnf
    refine ⟨⟨.refl _, trivial⟩, trivial, ?_⟩
    conv => whnf
    refine callR [11] t1 ?_
    conv => whnf
    refine ⟨⟨⟨rfl, rfl⟩, .refl _, trivial⟩, ⟨⟨.refl _, .refl _, trivial⟩, trivial⟩, ?_⟩
    conv => whnf
    refine fit64 (by omega) ?_
    conv => whnf
    refine callR [11] t2 ?_
    conv => whnf
    refine ⟨⟨⟨rfl, rfl⟩, .refl _, trivial⟩, ⟨⟨.refl _, .refl _, trivial⟩, trivial⟩, ?_⟩
    conv => whnf
    refine fit64 (by omega) ?_
    conv => whnf
    first | refine callF o1 ⟨.refl _, .refl _, trivial⟩ (by trivial) rfl ?_ | ((repeat (refine ⟨by kernel_rfl, ?_⟩; (conv => whnf))); refine callF o1 ⟨.refl _, .refl _, trivial⟩ (by trivial) rfl ?_)
    conv => whnf
    refine callR [11] t3 ?_
    conv => whnf
    refine ⟨⟨⟨rfl, rfl⟩, .refl _, trivial⟩, ⟨⟨.refl _, .refl _, trivial⟩, trivial⟩, ?_⟩
    conv => whnf
    refine fit64 (by omega) ?_
    conv => whnf
    refine callR [11] t4 ?_
    conv => whnf
    refine ⟨⟨⟨rfl, rfl⟩, .refl _, trivial⟩, ⟨⟨.refl _, .refl _, trivial⟩, trivial⟩, ?_⟩
    conv => whnf
    refine fit64 (by omega) ?_
    conv => whnf
    first | refine callF o2 ⟨.refl _, .refl _, trivial⟩ (by trivial) rfl ?_ | ((repeat (refine ⟨by kernel_rfl, ?_⟩; (conv => whnf))); refine callF o2 ⟨.refl _, .refl _, trivial⟩ (by trivial) rfl ?_)
    conv => whnf
    first | refine callF s1 ⟨.refl _, .refl _, trivial⟩ (by trivial) rfl ?_ | ((repeat (refine ⟨by kernel_rfl, ?_⟩; (conv => whnf))); refine callF s1 ⟨.refl _, .refl _, trivial⟩ (by trivial) rfl ?_)
    conv => whnf
    first | refine callF s2 ⟨.refl _, .refl _, trivial⟩ (by trivial) rfl ?_ | ((repeat (refine ⟨by kernel_rfl, ?_⟩; (conv => whnf))); refine callF s2 ⟨.refl _, .refl _, trivial⟩ (by trivial) rfl ?_)
    conv => whnf
    first | refine callF awake5_ok trivial (by trivial) rfl ?_ | ((repeat (refine ⟨by kernel_rfl, ?_⟩; (conv => whnf))); refine callF awake5_ok trivial (by trivial) rfl ?_)
    conv => whnf
    first | refine callF e1 ⟨.refl _, .refl _, trivial⟩ (by trivial) rfl ?_ | ((repeat (refine ⟨by kernel_rfl, ?_⟩; (conv => whnf))); refine callF e1 ⟨.refl _, .refl _, trivial⟩ (by trivial) rfl ?_)
    conv => whnf
    (repeat (refine ⟨by kernel_rfl, ?_⟩; (conv => whnf)))
    refine ⟨(by (try simp only [true_and, and_true, Nat.sub_zero, Nat.zero_add, Int.toNat_natCast]) <;> omega), ?_⟩
    exact .refl _
end Go.Abs

/- The reference's rational numbers: Min, Max. -/
set_option autoImplicit false
set_option maxHeartbeats 4000000
set_option maxRecDepth 10000
set_option linter.unusedVariables false
set_option linter.unusedSimpArgs false
namespace Go.Abs
open Go Go.Proofs

theorem sMax_ok {x y : AV} {a b : Rat} {s t : Nat} (ha : IsR x a s) (hb : IsR y b t) (hs : s + t ≤ 4398046300000) :
    ACall Tryz.prog 45 [x, y] (rat (rmax a b)) := by
  have c1 := sCompare_ok ha hb hs
  have n1 := sNorm_ok ha (by omega)
  have n2 := sNorm_ok hb (by omega)
  unfold rmax
  obtain ⟨na, ga, n, ga', n', _, hga, hga', hn, hn', h1⟩ := ha
  obtain ⟨nb, gb, m, gb', m', _, hgb, hgb', hm, hm', h2⟩ := hb
  generalize mkRat (ival na (nval ga n)) (nval ga' n') = a at *
  generalize mkRat (ival nb (nval gb m)) (nval gb' m') = b at *
  generalize rcmp a b = C at *
  by_cases h : 0 ≤ C
  · rw [if_pos h]
    refine acall_rule env [0, 1, 2, 3, 4, 8] Tryz.func45 rfl rfl rfl rfl ?_
    conv => whnf
    first | refine callF c1 ⟨.refl _, .refl _, trivial⟩ (by trivial) rfl ?_ | ((repeat (refine ⟨by kernel_rfl, ?_⟩; (conv => whnf))); refine callF c1 ⟨.refl _, .refl _, trivial⟩ (by trivial) rfl ?_)
    conv => whnf
    refine splT (by simp only [decide_eq_true_eq, decide_eq_false_iff_not, Bool.not_eq_true', Bool.not_eq_false', gt_iff_lt, ge_iff_le] <;> omega) ?_
    conv => whnf
    first | refine callF n1 ⟨.refl _, trivial⟩ (by trivial) rfl ?_ | ((repeat (refine ⟨by kernel_rfl, ?_⟩; (conv => whnf))); refine callF n1 ⟨.refl _, trivial⟩ (by trivial) rfl ?_)
    conv => whnf
    (repeat (refine ⟨by kernel_rfl, ?_⟩; (conv => whnf)))
    refine ⟨(by (try simp only [true_and, and_true, Nat.sub_zero, Nat.zero_add, Int.toNat_natCast]) <;> omega), ?_⟩
    exact .refl _
  · rw [if_neg h]
    refine acall_rule env [0, 1, 2, 3, 4, 8] Tryz.func45 rfl rfl rfl rfl ?_
    conv => whnf
    first | refine callF c1 ⟨.refl _, .refl _, trivial⟩ (by trivial) rfl ?_ | ((repeat (refine ⟨by kernel_rfl, ?_⟩; (conv => whnf))); refine callF c1 ⟨.refl _, .refl _, trivial⟩ (by trivial) rfl ?_)
    conv => whnf
    refine splF (by simp only [decide_eq_true_eq, decide_eq_false_iff_not, Bool.not_eq_true', Bool.not_eq_false', gt_iff_lt, ge_iff_le] <;> omega) ?_
    conv => whnf
    first | refine callF n2 ⟨.refl _, trivial⟩ (by trivial) rfl ?_ | ((repeat (refine ⟨by kernel_rfl, ?_⟩; (conv => whnf))); refine callF n2 ⟨.refl _, trivial⟩ (by trivial) rfl ?_)
    conv => whnf
    (repeat (refine ⟨by kernel_rfl, ?_⟩; (conv => whnf)))
    refine ⟨(by (try simp only [true_and, and_true, Nat.sub_zero, Nat.zero_add, Int.toNat_natCast]) <;> omega), ?_⟩
    exact .refl _
theorem rmax_ge (a b : Rat) : a ≤ rmax a b ∧ b ≤ rmax a b ∧ (rmax a b = a ∨ rmax a b = b) := by
  unfold rmax
  by_cases h : b ≤ a
  · have h1 := rcmp_le.2 h
    rw [rcmp_neg] at h1
    rw [if_pos (by omega)]
    exact ⟨Rat.le_refl, h, .inl rfl⟩
  · have h2 := Rat.not_le.1 h
    rw [rcmp_lt h2, if_neg (by omega)]
    exact ⟨Rat.le_of_lt h2, Rat.le_refl, .inr rfl⟩
theorem rmin_le (a b : Rat) : rmin a b ≤ a ∧ rmin a b ≤ b ∧ (rmin a b = a ∨ rmin a b = b) := by
  unfold rmin
  by_cases h : a ≤ b
  · rw [if_pos (rcmp_le.2 h)]
    exact ⟨Rat.le_refl, h, .inl rfl⟩
  · rw [if_neg (fun h' => h (rcmp_le.1 h'))]
    exact ⟨Rat.le_of_lt (Rat.not_le.1 h), Rat.le_refl, .inr rfl⟩
end Go.Abs

/- The reference's Below and Above; the law of bounds. -/
set_option autoImplicit false
set_option maxHeartbeats 4000000
set_option maxRecDepth 10000
set_option linter.unusedVariables false
set_option linter.unusedSimpArgs false
namespace Go.Abs
open Go Go.Proofs

/-- the greatest number with denominator d -/
def bl1 (a : Rat) (d : Int) : Rat := Rat.divInt (a * d).floor d
theorem bl1_le (a : Rat) {d : Int} (hd : 0 < d) : bl1 a d ≤ a := by
  apply le_of_mul hd
  unfold bl1
  rw [divInt_mul hd]
  exact Rat.floor_le _
theorem nb_uniq (a : Rat) {M : Int} (h1 : 1 ≤ M) {v : Rat} (hv : v ≤ a) (hd : (v.den : Int) ≤ M) : v ≤ (nbRes a M).1 := by
  obtain ⟨p1, p2, p3, p4, p5⟩ := nb_spec a h1
  refine Rat.not_lt.1 fun hlt => ?_
  rcases Rat.le_iff_lt_or_eq.1 (show v ≤ (nbRes a M).2 by grind) with h2 | h2
  · have := p5 v hlt h2; omega
  · have h3 : v = a := by grind
    rw [h3] at hd hlt
    rw [nb_big a hd] at hlt
    grind
theorem nb_uniq2 (a : Rat) {M : Int} (h1 : 1 ≤ M) {v : Rat} (hv : a ≤ v) (hd : (v.den : Int) ≤ M) : (nbRes a M).2 ≤ v := by
  obtain ⟨p1, p2, p3, p4, p5⟩ := nb_spec a h1
  refine Rat.not_lt.1 fun hlt => ?_
  rcases Rat.le_iff_lt_or_eq.1 (show (nbRes a M).1 ≤ v by grind) with h2 | h2
  · have := p5 v h2 hlt; omega
  · have h3 : v = a := by grind
    rw [h3] at hd hlt
    rw [nb_big a hd] at hlt
    grind
theorem nb_neg (a : Rat) {M : Int} (h1 : 1 ≤ M) : -(nbRes (-a) M).1 = (nbRes a M).2 := by
  obtain ⟨p1, p2, p3, p4, p5⟩ := nb_spec a h1
  obtain ⟨q1, q2, q3, q4, q5⟩ := nb_spec (-a) h1
  have e1 := nb_uniq2 a h1 (v := -(nbRes (-a) M).1) (by grind) (by rw [Rat.neg_den]; exact q3)
  have e2 := nb_uniq (-a) h1 (v := -(nbRes a M).2) (by grind) (by rw [Rat.neg_den]; exact p4)
  grind
theorem bl1_low (a : Rat) {M : Int} (h1 : 1 ≤ M) : (nbRes a M).1 ≤ bl1 a ((nbRes a M).1.den : Nat) := by
  obtain ⟨p1, p2, p3, p4, p5⟩ := nb_spec a h1
  have hd : (0 : Int) < ((nbRes a M).1.den : Nat) := by have := (nbRes a M).1.den_nz; omega
  apply le_of_mul hd
  unfold bl1
  rw [divInt_mul hd, num_den]
  apply Rat.intCast_le_intCast.2
  apply Rat.le_floor_iff.2
  rw [← num_den]
  exact mul_of_le hd p1
/-- the best one so far: of denominators 1 to d -/
def Best (a : Rat) (d : Int) (v : Rat) : Prop := (∃ i : Int, 1 ≤ i ∧ i ≤ d ∧ v = bl1 a i) ∧ ∀ i : Int, 1 ≤ i → i ≤ d → bl1 a i ≤ v
theorem Best.one (a : Rat) : Best a 1 ((a.floor : Int) : Rat) := by
  have e : bl1 a 1 = ((a.floor : Int) : Rat) := by unfold bl1; rw [show ((1 : Int) : Rat) = 1 from rfl, Rat.mul_one, divInt_one]
  refine ⟨⟨1, by omega, by omega, e.symm⟩, fun i h1 h2 => ?_⟩
  obtain rfl : i = 1 := by omega
  rw [e]; exact Rat.le_refl
theorem Best.step {a : Rat} {d : Int} {v : Rat} (h : Best a d v) (hd : 1 ≤ d) : Best a (d + 1) (rmax v (bl1 a (d + 1))) := by
  obtain ⟨⟨i, h1, h2, h3⟩, h4⟩ := h
  obtain ⟨m1, m2, m3⟩ := rmax_ge v (bl1 a (d + 1))
  constructor
  · rcases m3 with e | e
    · exact ⟨i, h1, by omega, by rw [e]; exact h3⟩
    · exact ⟨d + 1, by omega, by omega, e⟩
  · intro j j1 j2
    rcases Int.lt_or_eq_of_le j2 with g | g
    · exact Rat.le_trans (h4 j j1 (by omega)) m1
    · rw [g]; exact m2
theorem Best.fin {a : Rat} {M : Int} {v : Rat} (h : Best a M v) (hM : 1 ≤ M) : v = (nbRes a M).1 := by
  obtain ⟨⟨i, h1, h2, h3⟩, h4⟩ := h
  obtain ⟨p1, p2, p3, p4, p5⟩ := nb_spec a hM
  have a1 : v ≤ (nbRes a M).1 := by
    rw [h3]
    exact nb_uniq a hM (bl1_le a (by omega)) (Int.le_trans (divInt_den_le (by omega)) h2)
  have a2 := Rat.le_trans (bl1_low a hM) (h4 ((nbRes a M).1.den : Nat) (by have := (nbRes a M).1.den_nz; omega) p3)
  exact Rat.le_antisymm a1 a2
theorem bl1_sz (a : Rat) {s : Nat} (za : rsz a ≤ s) {d : Int} (hd : 1 ≤ d ∧ d ≤ 127) : rsz (bl1 a d) ≤ s + 2 := by
  have h0 : 1 ≤ s := Nat.le_trans (one_le_rsz a) za
  have zd : isz d ≤ 2 := isz_small (by omega)
  exact rsz_divInt (rsz_floor _ (rsz_mul za (rsz_int d zd (by omega)))) (by omega) (by omega)

theorem refBelow_ok {x : AV} {a : Rat} {M : Int} {s : Nat} (ha : IsR x a s) (hM : -128 ≤ M ∧ M ≤ 127) (hs : s ≤ 1048576 * 10) :
    ACall Tryz.prog 14 [x, .f (.int .i64 M)] (belowRes a M) := by
  have za := ha.size
  have ra := isR_rat a za
  have f1 := sFloor_ok ha (by omega)
  have zf := rsz_floor a za
  have w1 := sWhole_ok (isI_int _ zf) (by omega)
  have m1 := fun (d : Int) (h : 1 ≤ d ∧ d ≤ 127) => sMul_ok ha (isR_rat (d : Rat) (rsz_int (s := 2) d (isz_small (by omega)) (by omega))) (by omega)
  have h0 : 1 ≤ s := Nat.le_trans (one_le_rsz a) za
  obtain ⟨na, ga, la, ga', la', _, hga, hga', hna, hna', h1⟩ := ha
  generalize mkRat (ival na (nval ga la)) (nval ga' la') = a at *
  unfold belowRes
  by_cases h : M < 1
  · rw [if_pos h]
    refine acall_rule env [0, 1, 2, 4, 5, 6, 7, 9, 16] Tryz.func14 rfl rfl rfl rfl ?_
    conv => whnf
    refine splT (by simp only [decide_eq_true_eq, decide_eq_false_iff_not, Bool.not_eq_true', Bool.not_eq_false', gt_iff_lt, ge_iff_le] <;> omega) ?_
    conv => whnf
    refine ⟨(by (try simp only [true_and, and_true, Nat.sub_zero, Nat.zero_add, Int.toNat_natCast]) <;> omega), ?_⟩
    exact .tup ⟨.rat0, .refl _, trivial⟩
  rw [if_neg h]
  refine acall_rule env [0, 1, 2, 4, 5, 6, 7, 9, 16] Tryz.func14 rfl rfl rfl rfl ?_
  conv => whnf
  refine splF (by simp only [decide_eq_true_eq, decide_eq_false_iff_not, Bool.not_eq_true', Bool.not_eq_false', gt_iff_lt, ge_iff_le] <;> omega) ?_
  conv => whnf
  first | refine callF f1 ⟨.refl _, trivial⟩ (by trivial) rfl ?_ | ((repeat (refine ⟨by kernel_rfl, ?_⟩; (conv => whnf))); refine callF f1 ⟨.refl _, trivial⟩ (by trivial) rfl ?_)
  conv => whnf
  first | refine callF w1 ⟨.refl _, trivial⟩ (by trivial) rfl ?_ | ((repeat (refine ⟨by kernel_rfl, ?_⟩; (conv => whnf))); refine callF w1 ⟨.refl _, trivial⟩ (by trivial) rfl ?_)
  conv => whnf
  refine loop_mod [1, 2, 4, 5, 6, 7] [2, 4, 6] [4, 6] [4, 6]
    (fun μ fr hp => ∃ (d : Int) (v : Rat), 1 ≤ d ∧ d ≤ M ∧ Best a d v ∧ fr = [(1, .f (.int .i64 M)), bp3 2, bp3 4, (5, .f (.bool false)), bp3 6, (7, .f (.int .i64 (d + 1)))] ∧
      hp = [bx3 2 [.f (.bool na), raw ga la, raw ga' la'], bx3 4 zR, bx3 6 (ratL v)] ∧ μ = (M - d).toNat)
    (fun e fr hp => e = .exit 0 ∧ ∃ v, Best a M v ∧ fr = [bp3 4, bp3 6] ∧ hp = [bx3 4 zR, bx3 6 (ratL v)])
    ⟨_, _, _, _, rfl, .refl _, 1, _, by omega, by omega, Best.one a, rfl, rfl, rfl⟩ ?_ ?_
  · rintro _ _ _ ⟨rfl, v, hv, rfl, rfl⟩
    rw [← hv.fin (by omega)]
    conv => whnf
    (repeat (refine ⟨by kernel_rfl, ?_⟩; (conv => whnf)))
    refine ⟨(by (try simp only [true_and, and_true, Nat.sub_zero, Nat.zero_add, Int.toNat_natCast]) <;> omega), ?_⟩
    exact .refl _
  rintro μ _ _ ⟨d, v, hd1, hd2, hv, rfl, rfl, rfl⟩
  by_cases hin : d + 1 ≤ M
  · have hb : 1 ≤ d + 1 ∧ d + 1 ≤ 127 := by omega
    have zd : isz (d + 1) ≤ 2 := isz_small (by omega)
    have i1 := sFromInt_ok (d + 1) (by omega)
    have i2 := rFromInt_ok (d + 1) (by omega)
    have m2 := m1 _ hb
    have zm := rsz_mul za (rsz_int (s := 2) (d + 1) zd (by omega))
    have f2 := sFloor_ok (isR_rat _ zm) (by omega)
    have zf2 := rsz_floor _ zm
    have k1 := sMake_ok (isI_int _ zf2) (isI_int _ zd) (by omega) (by omega)
    have zv : rsz v ≤ s + 2 := by
      obtain ⟨⟨i, q1, q2, q3⟩, _⟩ := hv
      rw [q3]; exact bl1_sz a za (by omega)
    have zb := bl1_sz a za hb
    have x1 := sMax_ok (isR_rat _ zv) (isR_rat _ zb) (by omega)
    change ACall Tryz.prog _ _ (rat (bl1 a (d + 1))) at k1
    conv => whnf
    refine splT (by simp only [decide_eq_true_eq, decide_eq_false_iff_not, Bool.not_eq_true', Bool.not_eq_false', gt_iff_lt, ge_iff_le] <;> omega) ?_
    conv => whnf
    first | refine callF i1 ⟨.refl _, trivial⟩ (by trivial) rfl ?_ | ((repeat (refine ⟨by kernel_rfl, ?_⟩; (conv => whnf))); refine callF i1 ⟨.refl _, trivial⟩ (by trivial) rfl ?_)
    conv => whnf
    first | refine callF m2 ⟨.refl _, .refl _, trivial⟩ (by trivial) rfl ?_ | ((repeat (refine ⟨by kernel_rfl, ?_⟩; (conv => whnf))); refine callF m2 ⟨.refl _, .refl _, trivial⟩ (by trivial) rfl ?_)
    conv => whnf
    first | refine callF f2 ⟨.refl _, trivial⟩ (by trivial) rfl ?_ | ((repeat (refine ⟨by kernel_rfl, ?_⟩; (conv => whnf))); refine callF f2 ⟨.refl _, trivial⟩ (by trivial) rfl ?_)
    conv => whnf
    first | refine callF i2 ⟨.refl _, trivial⟩ (by trivial) rfl ?_ | ((repeat (refine ⟨by kernel_rfl, ?_⟩; (conv => whnf))); refine callF i2 ⟨.refl _, trivial⟩ (by trivial) rfl ?_)
    conv => whnf
    first | refine callF k1 ⟨.refl _, .refl _, trivial⟩ (by trivial) rfl ?_ | ((repeat (refine ⟨by kernel_rfl, ?_⟩; (conv => whnf))); refine callF k1 ⟨.refl _, .refl _, trivial⟩ (by trivial) rfl ?_)
    conv => whnf
    first | refine callF x1 ⟨.refl _, .refl _, trivial⟩ (by trivial) rfl ?_ | ((repeat (refine ⟨by kernel_rfl, ?_⟩; (conv => whnf))); refine callF x1 ⟨.refl _, .refl _, trivial⟩ (by trivial) rfl ?_)
    conv => whnf
    refine ⟨by kernel_rfl, ?_⟩
    conv => whnf
    refine fit64 (by omega) ?_
    conv => whnf
    exact ⟨_, by omega, _, _, _, rfl, .refl _, d + 1, _, by omega, by omega, hv.step hd1, rfl, rfl, rfl⟩
  · obtain rfl : d = M := by omega
    conv => whnf
    refine splF (by simp only [decide_eq_true_eq, decide_eq_false_iff_not, Bool.not_eq_true', Bool.not_eq_false', gt_iff_lt, ge_iff_le] <;> omega) ?_
    conv => whnf
    exact ⟨_, _, _, rfl, .refl _, rfl, v, hv, rfl, rfl⟩
theorem refAbove_ok {x : AV} {a : Rat} {M : Int} {s : Nat} (ha : IsR x a s) (hM : -128 ≤ M ∧ M ≤ 127) (hs : s ≤ 1048576 * 10) :
    ACall Tryz.prog 16 [x, .f (.int .i64 M)] (aboveRes a M) := by
  have za := ha.size
  have n1 := sNeg_ok ha (by omega)
  have zn : rsz (-a) ≤ s := by rw [rsz_neg]; exact za
  have b1 := refBelow_ok (isR_rat _ zn) hM hs
  obtain ⟨na, ga, la, ga', la', _, hga, hga', hna, hna', h1⟩ := ha
  generalize mkRat (ival na (nval ga la)) (nval ga' la') = a at *
  unfold belowRes at b1
  unfold aboveRes
  by_cases h : M < 1
  · rw [if_pos h] at b1 ⊢
    refine acall_rule env [0, 1, 2, 4, 5, 6, 7, 16] Tryz.func16 rfl rfl rfl rfl ?_
    conv => whnf
    first | refine callF n1 ⟨.refl _, trivial⟩ (by trivial) rfl ?_ | ((repeat (refine ⟨by kernel_rfl, ?_⟩; (conv => whnf))); refine callF n1 ⟨.refl _, trivial⟩ (by trivial) rfl ?_)
    conv => whnf
    first | refine callF b1 ⟨.refl _, .refl _, trivial⟩ (by trivial) rfl ?_ | ((repeat (refine ⟨by kernel_rfl, ?_⟩; (conv => whnf))); refine callF b1 ⟨.refl _, .refl _, trivial⟩ (by trivial) rfl ?_)
    conv => whnf
    refine ⟨(by (try simp only [true_and, and_true, Nat.sub_zero, Nat.zero_add, Int.toNat_natCast]) <;> omega), ?_⟩
    exact .tup ⟨.rat0, .refl _, trivial⟩
  · rw [if_neg h] at b1 ⊢
    have hz : rsz (nbRes (-a) M).1 ≤ 3 * (s + 2) + 1 := (nb_sz (-a) (show 1 ≤ M by omega) (Nat.le_trans zn (by omega)) (Nat.le_trans (isz_small (by omega)) (by omega))).1
    have n2 := sNeg_ok (isR_rat _ hz) (by omega)
    rw [nb_neg a (show 1 ≤ M by omega)] at n2
    generalize (nbRes (-a) M).1 = v at *
    refine acall_rule env [0, 1, 2, 4, 5, 6, 7, 16] Tryz.func16 rfl rfl rfl rfl ?_
    conv => whnf
    first | refine callF n1 ⟨.refl _, trivial⟩ (by trivial) rfl ?_ | ((repeat (refine ⟨by kernel_rfl, ?_⟩; (conv => whnf))); refine callF n1 ⟨.refl _, trivial⟩ (by trivial) rfl ?_)
    conv => whnf
    first | refine callF b1 ⟨.refl _, .refl _, trivial⟩ (by trivial) rfl ?_ | ((repeat (refine ⟨by kernel_rfl, ?_⟩; (conv => whnf))); refine callF b1 ⟨.refl _, .refl _, trivial⟩ (by trivial) rfl ?_)
    conv => whnf
    first | refine callF n2 ⟨.refl _, trivial⟩ (by trivial) rfl ?_ | ((repeat (refine ⟨by kernel_rfl, ?_⟩; (conv => whnf))); refine callF n2 ⟨.refl _, trivial⟩ (by trivial) rfl ?_)
    conv => whnf
    (repeat (refine ⟨by kernel_rfl, ?_⟩; (conv => whnf)))
    refine ⟨(by (try simp only [true_and, and_true, Nat.sub_zero, Nat.zero_add, Int.toNat_natCast]) <;> omega), ?_⟩
    exact .refl _

theorem ApproxBounds_ok {x : AV} {a : Rat} {M : Int} {s : Nat} (ha : IsR x a s) (hM : -128 ≤ M ∧ M ≤ 127) (hs : s ≤ 1048576) :
    ACall Tryz.prog 4 [x, .f (.int .i8 M)] (.f (.bool true)) := by
  have za := ha.size
  have h0 : 1 ≤ s := Nat.le_trans (one_le_rsz a) za
  have i1 := rFromInt_ok M (by omega)
  have zM : isz M ≤ s + 1 := Nat.le_trans (isz_small (by omega)) (by omega)
  have zM1 : isz M ≤ 1 := by
    apply size_le
    show M.natAbs < 4294967296
    omega
  have b1 := Below_ok ha (isI_int M (show isz M ≤ s by omega)) hs
  have a1 := Above_ok ha (isI_int M (show isz M ≤ s by omega)) hs
  have b2 := refBelow_ok ha hM (by omega)
  have a2 := refAbove_ok ha hM (by omega)
  unfold belowRes at b1 b2
  unfold aboveRes at a1 a2
  obtain ⟨na, ga, la, ga', la', _, hga, hga', hna, hna', h1⟩ := ha
  generalize mkRat (ival na (nval ga la)) (nval ga' la') = a at *
  by_cases h : M < 1
  · rw [if_pos h] at b1 b2 a1 a2
    have e1 := sEqual_rat0
    have e2 := sEqual_rat0
    refine acall_rule env [0, 1, 2, 4, 5, 6, 7, 8, 9, 10, 11, 12] Tryz.func4 rfl rfl rfl rfl ?_
    conv => whnf
    refine fit64 (by omega) ?_
    conv => whnf
    first | refine callF i1 ⟨.refl _, trivial⟩ (by trivial) rfl ?_ | ((repeat (refine ⟨by kernel_rfl, ?_⟩; (conv => whnf))); refine callF i1 ⟨.refl _, trivial⟩ (by trivial) rfl ?_)
    conv => whnf
    first | refine callF b1 ⟨.refl _, .refl _, trivial⟩ (by trivial) rfl ?_ | ((repeat (refine ⟨by kernel_rfl, ?_⟩; (conv => whnf))); refine callF b1 ⟨.refl _, .refl _, trivial⟩ (by trivial) rfl ?_)
    conv => whnf
    refine ⟨by kernel_rfl, ?_⟩
    conv => whnf
    refine fit64 (by omega) ?_
    conv => whnf
    first | refine callF b2 ⟨.refl _, .refl _, trivial⟩ (by trivial) rfl ?_ | ((repeat (refine ⟨by kernel_rfl, ?_⟩; (conv => whnf))); refine callF b2 ⟨.refl _, .refl _, trivial⟩ (by trivial) rfl ?_)
    conv => whnf
    refine fit64 (by omega) ?_
    conv => whnf
    first | refine callF i1 ⟨.refl _, trivial⟩ (by trivial) rfl ?_ | ((repeat (refine ⟨by kernel_rfl, ?_⟩; (conv => whnf))); refine callF i1 ⟨.refl _, trivial⟩ (by trivial) rfl ?_)
    conv => whnf
    first | refine callF a1 ⟨.refl _, .refl _, trivial⟩ (by trivial) rfl ?_ | ((repeat (refine ⟨by kernel_rfl, ?_⟩; (conv => whnf))); refine callF a1 ⟨.refl _, .refl _, trivial⟩ (by trivial) rfl ?_)
    conv => whnf
    refine ⟨by kernel_rfl, ?_⟩
    conv => whnf
    refine fit64 (by omega) ?_
    conv => whnf
    first | refine callF a2 ⟨.refl _, .refl _, trivial⟩ (by trivial) rfl ?_ | ((repeat (refine ⟨by kernel_rfl, ?_⟩; (conv => whnf))); refine callF a2 ⟨.refl _, .refl _, trivial⟩ (by trivial) rfl ?_)
    conv => whnf
    first | refine callF awake5_ok trivial (by trivial) rfl ?_ | ((repeat (refine ⟨by kernel_rfl, ?_⟩; (conv => whnf))); refine callF awake5_ok trivial (by trivial) rfl ?_)
    conv => whnf
    first | refine callF e1 ⟨.refl _, .refl _, trivial⟩ (by trivial) rfl ?_ | ((repeat (refine ⟨by kernel_rfl, ?_⟩; (conv => whnf))); refine callF e1 ⟨.refl _, .refl _, trivial⟩ (by trivial) rfl ?_)
    conv => whnf
    first | refine callF e2 ⟨.refl _, .refl _, trivial⟩ (by trivial) rfl ?_ | ((repeat (refine ⟨by kernel_rfl, ?_⟩; (conv => whnf))); refine callF e2 ⟨.refl _, .refl _, trivial⟩ (by trivial) rfl ?_)
    conv => whnf
    (repeat (refine ⟨by kernel_rfl, ?_⟩; (conv => whnf)))
    refine ⟨(by (try simp only [true_and, and_true, Nat.sub_zero, Nat.zero_add, Int.toNat_natCast]) <;> omega), ?_⟩
    exact .refl _
  · rw [if_neg h] at b1 b2 a1 a2
    obtain ⟨w1, w2⟩ := nb_sz a (show 1 ≤ M by omega) za (show isz M ≤ s by omega)
    have e1 := sEqual_same _ (Nat.le_trans w1 (by omega))
    have e2 := sEqual_same _ (Nat.le_trans w2 (by omega))
    generalize (nbRes a M).1 = r1 at *
    generalize (nbRes a M).2 = r2 at *
    refine acall_rule env [0, 1, 2, 4, 5, 6, 7, 8, 9, 10, 11, 12] Tryz.func4 rfl rfl rfl rfl ?_
    conv => whnf
    refine fit64 (by omega) ?_
    conv => whnf
    first | refine callF i1 ⟨.refl _, trivial⟩ (by trivial) rfl ?_ | ((repeat (refine ⟨by kernel_rfl, ?_⟩; (conv => whnf))); refine callF i1 ⟨.refl _, trivial⟩ (by trivial) rfl ?_)
    conv => whnf
    first | refine callF b1 ⟨.refl _, .refl _, trivial⟩ (by trivial) rfl ?_ | ((repeat (refine ⟨by kernel_rfl, ?_⟩; (conv => whnf))); refine callF b1 ⟨.refl _, .refl _, trivial⟩ (by trivial) rfl ?_)
    conv => whnf
    refine ⟨by kernel_rfl, ?_⟩
    conv => whnf
    refine fit64 (by omega) ?_
    conv => whnf
    first | refine callF b2 ⟨.refl _, .refl _, trivial⟩ (by trivial) rfl ?_ | ((repeat (refine ⟨by kernel_rfl, ?_⟩; (conv => whnf))); refine callF b2 ⟨.refl _, .refl _, trivial⟩ (by trivial) rfl ?_)
    conv => whnf
    refine fit64 (by omega) ?_
    conv => whnf
    first | refine callF i1 ⟨.refl _, trivial⟩ (by trivial) rfl ?_ | ((repeat (refine ⟨by kernel_rfl, ?_⟩; (conv => whnf))); refine callF i1 ⟨.refl _, trivial⟩ (by trivial) rfl ?_)
    conv => whnf
    first | refine callF a1 ⟨.refl _, .refl _, trivial⟩ (by trivial) rfl ?_ | ((repeat (refine ⟨by kernel_rfl, ?_⟩; (conv => whnf))); refine callF a1 ⟨.refl _, .refl _, trivial⟩ (by trivial) rfl ?_)
    conv => whnf
    refine ⟨by kernel_rfl, ?_⟩
    conv => whnf
    refine fit64 (by omega) ?_
    conv => whnf
    first | refine callF a2 ⟨.refl _, .refl _, trivial⟩ (by trivial) rfl ?_ | ((repeat (refine ⟨by kernel_rfl, ?_⟩; (conv => whnf))); refine callF a2 ⟨.refl _, .refl _, trivial⟩ (by trivial) rfl ?_)
    conv => whnf
    first | refine callF awake5_ok trivial (by trivial) rfl ?_ | ((repeat (refine ⟨by kernel_rfl, ?_⟩; (conv => whnf))); refine callF awake5_ok trivial (by trivial) rfl ?_)
    conv => whnf
    first | refine callF e1 ⟨.refl _, .refl _, trivial⟩ (by trivial) rfl ?_ | ((repeat (refine ⟨by kernel_rfl, ?_⟩; (conv => whnf))); refine callF e1 ⟨.refl _, .refl _, trivial⟩ (by trivial) rfl ?_)
    conv => whnf
    first | refine callF e2 ⟨.refl _, .refl _, trivial⟩ (by trivial) rfl ?_ | ((repeat (refine ⟨by kernel_rfl, ?_⟩; (conv => whnf))); refine callF e2 ⟨.refl _, .refl _, trivial⟩ (by trivial) rfl ?_)
    conv => whnf
    (repeat (refine ⟨by kernel_rfl, ?_⟩; (conv => whnf)))
    refine ⟨(by (try simp only [true_and, and_true, Nat.sub_zero, Nat.zero_add, Int.toNat_natCast]) <;> omega), ?_⟩
    exact .refl _
end Go.Abs

/- What comes in: lists of limbs, integers. -/
set_option autoImplicit false
set_option maxHeartbeats 4000000
set_option linter.unusedVariables false
set_option linter.unusedSimpArgs false
namespace Go.Abs
open Go Go.Proofs

theorem dec_limbs {c : List FV} {n : Nat} (h : Fits tab 25 c n) : ∃ (g : Nat → Nat) (m : Nat), Dig g m ∧ m + 1 ≤ n ∧ All2 FVle c [.sl 1 (fun j => [.int .u32 (g j : Nat)]) m none] := by
  obtain ⟨te, at_, len, bs, he, rfl, hel, hn⟩ := h.inv rfl
  have hte : te = ⟨.int .u32, 1, 4, [.int .u32 0]⟩ := by cases he; rfl
  have hx : ∀ i, i < len → ∃ x : Nat, x < 4294967296 ∧ at_ i = [.int .u32 (x : Int)] := by
    intro i hi
    have := (hel i hi).inv he
    subst hte
    obtain ⟨z, h1, h2, h3⟩ := this
    refine ⟨z.toNat, ?_, ?_⟩
    · have : z ≤ 4294967295 := h3
      have : 0 ≤ z := h2
      omega
    · have : 0 ≤ z := h2
      rw [h1, Int.toNat_of_nonneg this]
  obtain ⟨g, hg⟩ := pickF hx
  refine ⟨g, len, fun i hi => (hg i hi).1, ?_, ?_, trivial⟩
  · have := len_le_sumTo (bs := bs) (n := len) fun i hi => (hel i hi).pos
    omega
  · subst hte
    refine .sl (fun i hi => ?_) (.inl rfl)
    rw [(hg i hi).2]
    exact ⟨.refl _, trivial⟩

theorem dec_Int {c : List FV} {n : Nat} (h : Fits tab 27 c n) : ∃ (neg : Bool) (g : Nat → Nat) (m : Nat), Dig g m ∧ m + 1 ≤ n ∧ All2 FVle c [.bool neg, .sl 1 (fun j => [.int .u32 (g j : Nat)]) m none] := by
  obtain ⟨m0, hf, hn⟩ := h.inv rfl
  obtain ⟨a, b, c1, c2, h1, h2, rfl, rfl⟩ := hf.inv
  obtain ⟨a2, b2, c3, c4, h3, h4, rfl, rfl⟩ := h2.inv
  obtain ⟨rfl, rfl⟩ := h4.inv0
  obtain ⟨neg, rfl⟩ := h1.inv rfl
  obtain ⟨g, m, hg, hm, hle⟩ := dec_limbs h3
  refine ⟨neg, g, m, hg, by omega, ?_⟩
  rw [List.append_nil]
  exact ⟨.refl _, hle⟩

theorem all2_fle_fL : ∀ {c c' : List FV}, All2 FVle c c' → All2 AVle (fL c) (fL c')
  | [], [], _ => by simp [fL, All2]
  | x :: r, y :: r', ⟨a, b⟩ => by simp only [fL]; exact ⟨.f a, all2_fle_fL b⟩
  | [], _ :: _, h => h.elim
  | _ :: _, [], h => h.elim
theorem AVle.of_fL {c c' : List FV} (h : All2 FVle c c') : AVle (.agg (fL c)) (.agg (fL c')) := .agg (all2_fle_fL h)
theorem par_Int {c : List FV} {n : Nat} (h : Fits tab 27 c n) : ∃ (x : AV) (z : Int), IsI x z n ∧ AVle (.agg (fL c)) x := by
  obtain ⟨neg, g, m, hg, hm, hle⟩ := dec_Int h
  exact ⟨_, _, .mk neg g m n hg (by omega), .of_fL hle⟩
theorem par_limbs {c : FV} {n : Nat} (h : Fits tab 25 [c] n) : ∃ (g : Nat → Nat) (m : Nat), Dig g m ∧ m ≤ n ∧ AVle (.f c) (raw g m) := by
  obtain ⟨g, m, hg, hm, hle⟩ := dec_limbs h
  exact ⟨g, m, hg, by omega, .f hle.1⟩
theorem par_int {c : FV} {n : Nat} (h : Fits tab 3 [c] n) : ∃ z : Int, (-9223372036854775808 ≤ z ∧ z ≤ 9223372036854775807) ∧ AVle (.f c) (.f (.int .i64 z)) := by
  obtain ⟨z, hc, h1, h2⟩ := h.inv rfl
  cases hc
  exact ⟨z, ⟨h1, h2⟩, .refl _⟩
end Go.Abs

/- What comes in: rational numbers. -/
set_option autoImplicit false
set_option maxHeartbeats 4000000
set_option linter.unusedVariables false
set_option linter.unusedSimpArgs false
namespace Go.Abs
open Go Go.Proofs

theorem all2_app {α β : Type} {R : α → β → Prop} : ∀ {a : List α} {b : List β} {c : List α} {d : List β}, All2 R a b → All2 R c d → All2 R (a ++ c) (b ++ d)
  | [], [], _, _, _, h => h
  | _ :: _, _ :: _, _, _, ⟨h1, h2⟩, h => ⟨h1, all2_app h2 h⟩
  | [], _ :: _, _, _, h, _ => h.elim
  | _ :: _, [], _, _, h, _ => h.elim
theorem dec_Rat {c : List FV} {n : Nat} (h : Fits tab 29 c n) : ∃ (neg : Bool) (g : Nat → Nat) (m : Nat) (g' : Nat → Nat) (m' : Nat), Dig g m ∧ Dig g' m' ∧ m + m' + 3 ≤ n ∧ All2 FVle c [.bool neg, .sl 1 (fun j => [.int .u32 (g j : Nat)]) m none, .sl 1 (fun j => [.int .u32 (g' j : Nat)]) m' none] := by
  obtain ⟨m0, hf, hn⟩ := h.inv rfl
  obtain ⟨a, b, c1, c2, h1, h2, rfl, rfl⟩ := hf.inv
  obtain ⟨a2, b2, c3, c4, h3, h4, rfl, rfl⟩ := h2.inv
  obtain ⟨rfl, rfl⟩ := h4.inv0
  obtain ⟨neg, g, m, hg, hm, hle⟩ := dec_Int h1
  obtain ⟨g', m', hg', hm', hle'⟩ := dec_limbs h3
  refine ⟨neg, g, m, g', m', hg, hg', by omega, ?_⟩
  rw [List.append_nil]
  exact all2_app hle hle'
theorem par_Rat {c : List FV} {n : Nat} (h : Fits tab 29 c n) : ∃ (x : AV) (q : Rat), IsR x q n ∧ AVle (.agg (fL c)) x := by
  obtain ⟨neg, g, m, g', m', hg, hg', hm, hle⟩ := dec_Rat h
  exact ⟨_, _, .mk neg g m g' m' n hg hg' (by omega) (by omega) (by omega), .of_fL hle⟩
theorem par_uint32 {c : FV} {n : Nat} (h : Fits tab 70 [c] n) : ∃ z : Int, (0 ≤ z ∧ z ≤ 4294967295) ∧ AVle (.f c) (.f (.int .u32 z)) := by
  obtain ⟨z, hc, h1, h2⟩ := h.inv rfl
  cases hc
  exact ⟨z, ⟨h1, h2⟩, .refl _⟩
theorem par_uint8 {c : FV} {n : Nat} (h : Fits tab 5 [c] n) : ∃ z : Int, (0 ≤ z ∧ z ≤ 255) ∧ AVle (.f c) (.f (.int .u8 z)) := by
  obtain ⟨z, hc, h1, h2⟩ := h.inv rfl
  cases hc
  exact ⟨z, ⟨h1, h2⟩, .refl _⟩
theorem par_bool {c : FV} {n : Nat} (h : Fits tab 4 [c] n) : ∃ b : Bool, AVle (.f c) (.f (.bool b)) := by
  obtain ⟨b, hc⟩ := h.inv rfl
  cases hc
  exact ⟨b, .refl _⟩
end Go.Abs

/- What comes in: lists of numbers, small numbers. -/
set_option autoImplicit false
set_option maxHeartbeats 4000000
set_option linter.unusedVariables false
set_option linter.unusedSimpArgs false
namespace Go.Abs
open Go Go.Proofs

theorem par_ints {c : FV} {n : Nat} (h : Fits tab 22 [c] n) : ∃ (g : Nat → Int) (m : Nat), (∀ i, i < m → -9223372036854775808 ≤ g i ∧ g i ≤ 9223372036854775807) ∧ m ≤ n ∧ AVle (.f c) (.f (.sl 1 (fun j => [.int .i64 (g j)]) m none)) := by
  obtain ⟨te, at_, len, bs, he, hc, hel, hn⟩ := h.inv rfl
  cases hc
  have hte : te = ⟨.int .i64, 1, 8, [.int .i64 0]⟩ := by cases he; rfl
  have hx : ∀ i, i < len → ∃ x : Int, (-9223372036854775808 ≤ x ∧ x ≤ 9223372036854775807) ∧ at_ i = [.int .i64 x] := by
    intro i hi
    have := (hel i hi).inv he
    subst hte
    obtain ⟨z, h1, h2, h3⟩ := this
    exact ⟨z, ⟨h2, h3⟩, h1⟩
  obtain ⟨g, hg⟩ := pickF hx
  refine ⟨g, len, fun i hi => (hg i hi).1, ?_, .f ?_⟩
  · have := len_le_sumTo (bs := bs) (n := len) fun i hi => (hel i hi).pos
    omega
  · subst hte
    refine .sl (fun i hi => ?_) (.inl rfl)
    rw [(hg i hi).2]
    exact ⟨.refl _, trivial⟩
theorem par_int8 {c : FV} {n : Nat} (h : Fits tab 37 [c] n) : ∃ z : Int, (-128 ≤ z ∧ z ≤ 127) ∧ AVle (.f c) (.f (.int .i8 z)) := by
  obtain ⟨z, hc, h1, h2⟩ := h.inv rfl
  cases hc
  exact ⟨z, ⟨h1, h2⟩, .refl _⟩
end Go.Abs
