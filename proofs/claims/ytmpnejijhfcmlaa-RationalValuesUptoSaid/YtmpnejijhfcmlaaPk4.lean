/- Contracts of the functions that the law calls, and the logic in which they are proved: part 4. -/
import Derived.Test.YtmpnejijhfcmlaaPk3
/- The reference's integers: DivMod, GCD. -/
set_option autoImplicit false
set_option maxHeartbeats 4000000
set_option maxRecDepth 10000
set_option linter.unusedVariables false
set_option linter.unusedSimpArgs false
namespace Go.Abs
open Go Go.Proofs

theorem rGCD_ok {x y : AV} {a b : Int} {s t : Nat} (ha : IsI x a s) (hb : IsI y b t) (hs : s ≤ 4398046510000) (ht : t ≤ 4398046510000) :
    ACall Try.prog 30 [x, y] (int (Nat.gcd a.natAbs b.natAbs : Nat)) := by
  obtain ⟨na, g, n, _, hg, hn⟩ := ha
  obtain ⟨nb, h, m, _, hh, hm⟩ := hb
  have d1 := refGCD_ok g h n m hg hh (by omega) (by omega)
  have sA := size_nval hg
  have sB := size_nval hh
  rw [ival_abs, ival_abs]
  have z := size_gcd_left (N := max s t) (Nat.le_trans sA (by omega)) (Nat.le_trans sB (by omega))
  have w := rMake_nat false (Nat.gcd (nval g n) (nval h m)) (by omega)
  refine acall_rule env [0, 1, 2, 3, 4] Try.func30 rfl rfl rfl rfl ?_
  conv => whnf
  first | refine callF d1 ⟨.refl _, .refl _, trivial⟩ (by trivial) rfl ?_ | ((repeat (refine ⟨by kernel_rfl, ?_⟩; (conv => whnf))); refine callF d1 ⟨.refl _, .refl _, trivial⟩ (by trivial) rfl ?_)
  conv => whnf
  first | refine callF w ⟨.refl _, .refl _, trivial⟩ (by trivial) rfl ?_ | ((repeat (refine ⟨by kernel_rfl, ?_⟩; (conv => whnf))); refine callF w ⟨.refl _, .refl _, trivial⟩ (by trivial) rfl ?_)
  conv => whnf
  (repeat (refine ⟨by kernel_rfl, ?_⟩; (conv => whnf)))
  refine ⟨(by (try simp only [true_and, and_true, Nat.sub_zero, Nat.zero_add, Int.toNat_natCast]) <;> omega), ?_⟩
  exact .refl _

theorem rDivMod_ok {x y : AV} {a b : Int} {s t : Nat} (ha : IsI x a s) (hb : IsI y b t) (hs : s ≤ 4398046500000) (ht : t ≤ 4398046500000) :
    ACall Try.prog 31 [x, y] (idivRes a b) := by
  have hab := rAbs_ok hb (by omega)
  obtain ⟨na, g, n, _, hg, hn⟩ := ha
  obtain ⟨nb, h, m, _, hh, hm⟩ := hb
  have d1 := refDivMod_ok g h n m hg hh (by omega) (by omega)
  have sA := size_nval hg
  have sB := size_nval hh
  rw [ival_abs] at hab
  generalize nval g n = A at *
  generalize nval h m = B at *
  unfold idivRes
  unfold divRes at d1
  have hb0 : ival nb B = 0 ↔ B = 0 := by cases nb <;> simp [ival]
  by_cases hB : B = 0
  · rw [if_pos hB] at d1
    rw [if_pos (hb0.2 hB)]
    refine acall_rule env [0, 1, 2, 3, 4, 5, 6, 7, 8, 19, 34, 40] Try.func31 rfl rfl rfl rfl ?_
    conv => whnf
    first | refine callF d1 ⟨.refl _, .refl _, trivial⟩ (by trivial) rfl ?_ | ((repeat (refine ⟨by kernel_rfl, ?_⟩; (conv => whnf))); refine callF d1 ⟨.refl _, .refl _, trivial⟩ (by trivial) rfl ?_)
    conv => whnf
    refine ⟨(by (try simp only [true_and, and_true, Nat.sub_zero, Nat.zero_add, Int.toNat_natCast]) <;> omega), ?_⟩
    exact .tup ⟨.int_zero, .int_zero, .refl _, trivial⟩
  have hB0 : 0 < B := by omega
  rw [if_neg hB] at d1
  rw [if_neg (fun h => hB (hb0.1 h))]
  have hlt : A % B < B := Nat.mod_lt _ hB0
  have sq : size (A / B) ≤ s := Nat.le_trans (size_le_of (Nat.div_le_self _ _) sA) hn
  have sr : size (A % B) ≤ t := Nat.le_trans (size_le_of (Nat.le_of_lt hlt) sB) hm
  have w0 := rMake_nat (!(na == nb)) (A / B) (by omega)
  have w2 := rMake_nat na (A % B) (by omega)
  have ep := ediv_pos A B
  have en := ediv_np A B hB0
  by_cases hr : A % B = 0
  · rw [if_pos hr, if_pos hr] at en
    have hq : ival na A / ival nb B = ival (!(na == nb)) (A / B) := by
      cases na <;> cases nb
      · exact ep.1
      · show (A : Int) / -(B : Int) = -((A / B : Nat) : Int); rw [Int.ediv_neg, ep.1]
      · exact en.1
      · show -(A : Int) / -(B : Int) = ((A / B : Nat) : Int); rw [Int.ediv_neg, en.1, Int.neg_neg]
    have hq2 : ival na A % ival nb B = 0 := by
      rw [hr] at ep
      cases na <;> cases nb
      · exact ep.2
      · show (A : Int) % -(B : Int) = _; rw [Int.emod_neg, ep.2]; rfl
      · exact en.2
      · show -(A : Int) % -(B : Int) = _; rw [Int.emod_neg, en.2]; rfl
    rw [hq, hq2]
    rw [hr] at d1 w2
    rw [show ival na 0 = 0 by cases na <;> rfl] at w2
    refine acall_rule env [0, 1, 2, 3, 4, 5, 6, 7, 8, 19, 34, 40] Try.func31 rfl rfl rfl rfl ?_
    conv => whnf
    first | refine callF d1 ⟨.refl _, .refl _, trivial⟩ (by trivial) rfl ?_ | ((repeat (refine ⟨by kernel_rfl, ?_⟩; (conv => whnf))); refine callF d1 ⟨.refl _, .refl _, trivial⟩ (by trivial) rfl ?_)
    conv => whnf
    first | refine callF w0 ⟨.refl _, .refl _, trivial⟩ (by trivial) rfl ?_ | ((repeat (refine ⟨by kernel_rfl, ?_⟩; (conv => whnf))); refine callF w0 ⟨.refl _, .refl _, trivial⟩ (by trivial) rfl ?_)
    conv => whnf
    first | refine callF w2 ⟨.refl _, .refl _, trivial⟩ (by trivial) rfl ?_ | ((repeat (refine ⟨by kernel_rfl, ?_⟩; (conv => whnf))); refine callF w2 ⟨.refl _, .refl _, trivial⟩ (by trivial) rfl ?_)
    conv => whnf
    (repeat (refine ⟨by kernel_rfl, ?_⟩; (conv => whnf)))
    refine ⟨(by (try simp only [true_and, and_true, Nat.sub_zero, Nat.zero_add, Int.toNat_natCast]) <;> omega), ?_⟩
    exact .refl _
  · rw [if_neg hr, if_neg hr] at en
    cases na
    · have hq : ival false A / ival nb B = ival (!(false == nb)) (A / B) := by
        cases nb
        · exact ep.1
        · show (A : Int) / -(B : Int) = -((A / B : Nat) : Int); rw [Int.ediv_neg, ep.1]
      have hq2 : ival false A % ival nb B = ival false (A % B) := by
        cases nb
        · exact ep.2
        · show (A : Int) % -(B : Int) = _; rw [Int.emod_neg, ep.2]; rfl
      rw [hq, hq2]
      have e : int (ival false (A % B)) = .agg [.f (.bool false), nat (A % B)] := int_nonneg _
      rw [e] at w2 ⊢
      refine acall_rule env [0, 1, 2, 3, 4, 5, 6, 7, 8, 19, 34, 40] Try.func31 rfl rfl rfl rfl ?_
      conv => whnf
      first | refine callF d1 ⟨.refl _, .refl _, trivial⟩ (by trivial) rfl ?_ | ((repeat (refine ⟨by kernel_rfl, ?_⟩; (conv => whnf))); refine callF d1 ⟨.refl _, .refl _, trivial⟩ (by trivial) rfl ?_)
      conv => whnf
      first | refine callF w0 ⟨.refl _, .refl _, trivial⟩ (by trivial) rfl ?_ | ((repeat (refine ⟨by kernel_rfl, ?_⟩; (conv => whnf))); refine callF w0 ⟨.refl _, .refl _, trivial⟩ (by trivial) rfl ?_)
      conv => whnf
      first | refine callF w2 ⟨.refl _, .refl _, trivial⟩ (by trivial) rfl ?_ | ((repeat (refine ⟨by kernel_rfl, ?_⟩; (conv => whnf))); refine callF w2 ⟨.refl _, .refl _, trivial⟩ (by trivial) rfl ?_)
      conv => whnf
      (repeat (refine ⟨by kernel_rfl, ?_⟩; (conv => whnf)))
      refine ⟨(by (try simp only [true_and, and_true, Nat.sub_zero, Nat.zero_add, Int.toNat_natCast]) <;> omega), ?_⟩
      exact .refl _
    · have e : int (ival true (A % B)) = .agg [.f (.bool true), nat (A % B)] := by
        unfold int
        rw [ival_neg, ival_abs, decide_eq_true (by omega)]; rfl
      have hz : isz (ival true (A % B)) ≤ t := by rw [isz, ival_abs]; exact sr
      have hzb : isz (B : Int) ≤ t := by rw [isz_nat]; omega
      have a1 := rAdd_ok (isI_int (ival true (A % B)) hz) (isI_int (B : Int) hzb) (by omega) (by omega)
      rw [show ival true (A % B) + (B : Int) = ival false (B - A % B) by simp only [ival_t, ival_f]; omega] at a1
      have hzq : ∀ c, isz (ival c (A / B)) ≤ s := fun c => by rw [isz, ival_abs]; exact sq
      have f1 := rFromInt_ok 1 (by omega)
      have h1 : isz 1 ≤ 1 := by decide
      have hq2 : ival true A % ival nb B = ival false (B - A % B) := by
        cases nb
        · exact en.2
        · show -(A : Int) % -(B : Int) = _; rw [Int.emod_neg, en.2]; rfl
      rw [hq2]
      rw [e] at w2 a1
      cases nb
      · have hq : ival true A / ival false B = ival true (A / B) - 1 := by
          rw [show ival true A / ival false B = -(A : Int) / (B : Int) from rfl, en.1]
          show -((A / B : Nat) + 1 : Int) = -((A / B : Nat) : Int) - 1
          omega
        rw [hq]
        have s1 := rSub_ok (isI_int _ (hzq true)) (isI_int 1 h1) (by omega) (by omega)
        refine acall_rule env [0, 1, 2, 3, 4, 5, 6, 7, 8, 19, 34, 40] Try.func31 rfl rfl rfl rfl ?_
        conv => whnf
        first | refine callF d1 ⟨.refl _, .refl _, trivial⟩ (by trivial) rfl ?_ | ((repeat (refine ⟨by kernel_rfl, ?_⟩; (conv => whnf))); refine callF d1 ⟨.refl _, .refl _, trivial⟩ (by trivial) rfl ?_)
        conv => whnf
        first | refine callF w0 ⟨.refl _, .refl _, trivial⟩ (by trivial) rfl ?_ | ((repeat (refine ⟨by kernel_rfl, ?_⟩; (conv => whnf))); refine callF w0 ⟨.refl _, .refl _, trivial⟩ (by trivial) rfl ?_)
        conv => whnf
        first | refine callF w2 ⟨.refl _, .refl _, trivial⟩ (by trivial) rfl ?_ | ((repeat (refine ⟨by kernel_rfl, ?_⟩; (conv => whnf))); refine callF w2 ⟨.refl _, .refl _, trivial⟩ (by trivial) rfl ?_)
        conv => whnf
        first | refine callF hab ⟨.refl _, trivial⟩ (by trivial) rfl ?_ | ((repeat (refine ⟨by kernel_rfl, ?_⟩; (conv => whnf))); refine callF hab ⟨.refl _, trivial⟩ (by trivial) rfl ?_)
        conv => whnf
        first | refine callF a1 ⟨.refl _, .refl _, trivial⟩ (by trivial) rfl ?_ | ((repeat (refine ⟨by kernel_rfl, ?_⟩; (conv => whnf))); refine callF a1 ⟨.refl _, .refl _, trivial⟩ (by trivial) rfl ?_)
        conv => whnf
        first | refine callF f1 ⟨.refl _, trivial⟩ (by trivial) rfl ?_ | ((repeat (refine ⟨by kernel_rfl, ?_⟩; (conv => whnf))); refine callF f1 ⟨.refl _, trivial⟩ (by trivial) rfl ?_)
        conv => whnf
        first | refine callF s1 ⟨.refl _, .refl _, trivial⟩ (by trivial) rfl ?_ | ((repeat (refine ⟨by kernel_rfl, ?_⟩; (conv => whnf))); refine callF s1 ⟨.refl _, .refl _, trivial⟩ (by trivial) rfl ?_)
        conv => whnf
        (repeat (refine ⟨by kernel_rfl, ?_⟩; (conv => whnf)))
        refine ⟨(by (try simp only [true_and, and_true, Nat.sub_zero, Nat.zero_add, Int.toNat_natCast]) <;> omega), ?_⟩
        exact .refl _
      · have hq : ival true A / ival true B = ival false (A / B) + 1 := by
          rw [show ival true A / ival true B = -(A : Int) / -(B : Int) from rfl, Int.ediv_neg, en.1, Int.neg_neg]
          rfl
        rw [hq]
        have s1 := rAdd_ok (isI_int _ (hzq false)) (isI_int 1 h1) (by omega) (by omega)
        refine acall_rule env [0, 1, 2, 3, 4, 5, 6, 7, 8, 19, 34, 40] Try.func31 rfl rfl rfl rfl ?_
        conv => whnf
        first | refine callF d1 ⟨.refl _, .refl _, trivial⟩ (by trivial) rfl ?_ | ((repeat (refine ⟨by kernel_rfl, ?_⟩; (conv => whnf))); refine callF d1 ⟨.refl _, .refl _, trivial⟩ (by trivial) rfl ?_)
        conv => whnf
        first | refine callF w0 ⟨.refl _, .refl _, trivial⟩ (by trivial) rfl ?_ | ((repeat (refine ⟨by kernel_rfl, ?_⟩; (conv => whnf))); refine callF w0 ⟨.refl _, .refl _, trivial⟩ (by trivial) rfl ?_)
        conv => whnf
        first | refine callF w2 ⟨.refl _, .refl _, trivial⟩ (by trivial) rfl ?_ | ((repeat (refine ⟨by kernel_rfl, ?_⟩; (conv => whnf))); refine callF w2 ⟨.refl _, .refl _, trivial⟩ (by trivial) rfl ?_)
        conv => whnf
        first | refine callF hab ⟨.refl _, trivial⟩ (by trivial) rfl ?_ | ((repeat (refine ⟨by kernel_rfl, ?_⟩; (conv => whnf))); refine callF hab ⟨.refl _, trivial⟩ (by trivial) rfl ?_)
        conv => whnf
        first | refine callF a1 ⟨.refl _, .refl _, trivial⟩ (by trivial) rfl ?_ | ((repeat (refine ⟨by kernel_rfl, ?_⟩; (conv => whnf))); refine callF a1 ⟨.refl _, .refl _, trivial⟩ (by trivial) rfl ?_)
        conv => whnf
        first | refine callF f1 ⟨.refl _, trivial⟩ (by trivial) rfl ?_ | ((repeat (refine ⟨by kernel_rfl, ?_⟩; (conv => whnf))); refine callF f1 ⟨.refl _, trivial⟩ (by trivial) rfl ?_)
        conv => whnf
        first | refine callF s1 ⟨.refl _, .refl _, trivial⟩ (by trivial) rfl ?_ | ((repeat (refine ⟨by kernel_rfl, ?_⟩; (conv => whnf))); refine callF s1 ⟨.refl _, .refl _, trivial⟩ (by trivial) rfl ?_)
        conv => whnf
        (repeat (refine ⟨by kernel_rfl, ?_⟩; (conv => whnf)))
        refine ⟨(by (try simp only [true_and, and_true, Nat.sub_zero, Nat.zero_add, Int.toNat_natCast]) <;> omega), ?_⟩
        exact .refl _

end Go.Abs

/- Rational numbers: reduced, Norm, parts, New. -/
set_option autoImplicit false
set_option maxHeartbeats 4000000
set_option maxRecDepth 10000
set_option linter.unusedVariables false
set_option linter.unusedSimpArgs false
namespace Go.Abs
open Go Go.Proofs

theorem bitlen_zero (A : Nat) : (bitlen A : Int) = 0 ↔ A = 0 := by
  unfold bitlen
  split
  · simp [*]
  · rename_i h; constructor
    · intro h; omega
    · intro h'; exact absurd h' h
theorem bitlen_one (A : Nat) : (bitlen A : Int) = 1 ↔ A = 1 := by
  unfold bitlen
  split
  · rename_i h; subst h; simp
  · rename_i h
    have h0 := Nat.log2_self_le h
    constructor
    · intro h1
      have : A.log2 = 0 := by omega
      have h2 : A < 2 ^ 1 := (Nat.log2_lt h).1 (by omega)
      rw [Nat.pow_one] at h2
      omega
    · intro h1; subst h1; rfl

theorem sgn_iff {a : Int} : (sgn a = 0) ↔ a = 0 := by unfold sgn; repeat' split
                                                      all_goals omega
theorem qone_ok : ACall Try.prog 41 [] (nat 1) := by
  have f := FromUint64_ok 1 (by omega)
  refine acall_rule env [0] Try.func41 rfl rfl rfl rfl ?_
  conv => whnf
  first | refine callF f ⟨.refl _, trivial⟩ (by trivial) rfl ?_ | ((repeat (refine ⟨by kernel_rfl, ?_⟩; (conv => whnf))); refine callF f ⟨.refl _, trivial⟩ (by trivial) rfl ?_)
  conv => whnf
  (repeat (refine ⟨by kernel_rfl, ?_⟩; (conv => whnf)))
  refine ⟨(by (try simp only [true_and, and_true, Nat.sub_zero, Nat.zero_add, Int.toNat_natCast]) <;> omega), ?_⟩
  exact .refl _
theorem qisOne_ok (A : Nat) (h : size A ≤ 4398046511104) : ACall Try.prog 51 [nat A] (.f (.bool (decide (A = 1)))) := by
  have b := Bits_ok (digit A) (size A) (digit_Dig _ _) h
  rw [nval_digit_size] at b
  have h1 := bitlen_one A
  refine acall_rule env [0, 2] Try.func51 rfl rfl rfl rfl ?_
  conv => whnf
  first | refine callF b ⟨.refl _, trivial⟩ (by trivial) rfl ?_ | ((repeat (refine ⟨by kernel_rfl, ?_⟩; (conv => whnf))); refine callF b ⟨.refl _, trivial⟩ (by trivial) rfl ?_)
  conv => whnf
  (repeat (refine ⟨by kernel_rfl, ?_⟩; (conv => whnf)))
  refine ⟨(by (try simp only [true_and, and_true, Nat.sub_zero, Nat.zero_add, Int.toNat_natCast]) <;> omega), ?_⟩
  exact .bool_of (by simp only [← h1])

theorem reduced_ok {x : AV} {z : Int} {s : Nat} (hx : IsI x z s) (h : Nat → Nat) (m : Nat) (hh : Dig h m) (hs : s ≤ 4398046510000) (hm : m ≤ 4398046510000) (h0 : nval h m ≠ 0) :
    ACall Try.prog 25 [x, raw h m] (rat (mkRat z (nval h m))) := by
  have n1 := iNorm_ok hx (by omega)
  have o1 := qone_ok
  have sz := hx.size
  have sD := size_nval hh
  have g1 := GCD_ok (digit z.natAbs) h (size z.natAbs) m (digit_Dig _ _) hh (by unfold isz at sz; omega) (by omega)
  rw [nval_digit_size] at g1
  have t1 := Trim_ok h m hh (by omega)
  have d2 := fun G hG => DivMod_ok h (digit G) m (size G) hh (digit_Dig _ _) (by omega) hG
  simp only [nval_digit_size] at d2
  obtain ⟨nx, gx, lx, _, hgx, hlx⟩ := hx
  generalize ival nx (nval gx lx) = z at *
  generalize nval h m = D at *
  have sG : size (Nat.gcd z.natAbs D) ≤ 4398046510000 := size_le_of (Nat.gcd_le_right _ (by omega)) (by omega)
  have hG0 : Nat.gcd z.natAbs D ≠ 0 := fun h => h0 (Nat.eq_zero_of_gcd_eq_zero_right h)
  replace d2 := d2 (Nat.gcd z.natAbs D) (by omega)
  have d1 := DivMod_nn z.natAbs (Nat.gcd z.natAbs D) (by unfold isz at sz; omega) (by omega)
  rw [divRes, if_neg hG0] at d1 d2
  have i1 := qisOne_ok (Nat.gcd z.natAbs D) (by omega)
  have t2 := Trim_ok (digit (D / Nat.gcd z.natAbs D)) (size (D / Nat.gcd z.natAbs D)) (digit_Dig _ _) (Nat.le_trans (size_mono (Nat.div_le_self _ _)) (by omega))
  rw [nval_digit_size] at t2
  have hr := mk_rat z h0
  by_cases hz : z = 0
  · subst hz
    rw [Rat.zero_mkRat]
    refine acall_rule env [0, 1, 2, 4, 5, 11, 21] Try.func25 rfl rfl rfl rfl ?_
    conv => whnf
    first | refine callF n1 ⟨.refl _, trivial⟩ (by trivial) rfl ?_ | ((repeat (refine ⟨by kernel_rfl, ?_⟩; (conv => whnf))); refine callF n1 ⟨.refl _, trivial⟩ (by trivial) rfl ?_)
    conv => whnf
    first | refine callF o1 trivial (by trivial) rfl ?_ | ((repeat (refine ⟨by kernel_rfl, ?_⟩; (conv => whnf))); refine callF o1 trivial (by trivial) rfl ?_)
    conv => whnf
    (repeat (refine ⟨by kernel_rfl, ?_⟩; (conv => whnf)))
    refine ⟨(by (try simp only [true_and, and_true, Nat.sub_zero, Nat.zero_add, Int.toNat_natCast]) <;> omega), ?_⟩
    exact .refl _
  rw [hr]
  have hz1 : 0 < size z.natAbs := size_pos (by omega)
  by_cases hG : Nat.gcd z.natAbs D = 1
  · rw [hG] at g1 i1 ⊢
    rw [Nat.div_one, Nat.div_one]
    obtain ⟨L, hL⟩ : ∃ L, size z.natAbs = L := ⟨_, rfl⟩
    refine acall_rule env [0, 1, 2, 4, 5, 11, 21] Try.func25 rfl rfl rfl rfl ?_
    conv => whnf
    first | refine callF n1 ⟨.refl _, trivial⟩ (by trivial) rfl ?_ | ((repeat (refine ⟨by kernel_rfl, ?_⟩; (conv => whnf))); refine callF n1 ⟨.refl _, trivial⟩ (by trivial) rfl ?_)
    conv => whnf
    refine splF (by simp only [decide_eq_true_eq, decide_eq_false_iff_not, Bool.not_eq_true', Bool.not_eq_false', gt_iff_lt, ge_iff_le] <;> omega) ?_
    conv => whnf
    first | refine callF g1 ⟨.refl _, .refl _, trivial⟩ (by trivial) rfl ?_ | ((repeat (refine ⟨by kernel_rfl, ?_⟩; (conv => whnf))); refine callF g1 ⟨.refl _, .refl _, trivial⟩ (by trivial) rfl ?_)
    conv => whnf
    first | refine callF i1 ⟨.refl _, trivial⟩ (by trivial) rfl ?_ | ((repeat (refine ⟨by kernel_rfl, ?_⟩; (conv => whnf))); refine callF i1 ⟨.refl _, trivial⟩ (by trivial) rfl ?_)
    conv => whnf
    first | refine callF t1 ⟨.refl _, trivial⟩ (by trivial) rfl ?_ | ((repeat (refine ⟨by kernel_rfl, ?_⟩; (conv => whnf))); refine callF t1 ⟨.refl _, trivial⟩ (by trivial) rfl ?_)
    conv => whnf
    (repeat (refine ⟨by kernel_rfl, ?_⟩; (conv => whnf)))
    refine ⟨(by (try simp only [true_and, and_true, Nat.sub_zero, Nat.zero_add, Int.toNat_natCast]) <;> omega), ?_⟩
    exact .refl _
  · rw [decide_eq_false hG] at i1
    refine acall_rule env [0, 1, 2, 4, 5, 11, 21] Try.func25 rfl rfl rfl rfl ?_
    conv => whnf
    first | refine callF n1 ⟨.refl _, trivial⟩ (by trivial) rfl ?_ | ((repeat (refine ⟨by kernel_rfl, ?_⟩; (conv => whnf))); refine callF n1 ⟨.refl _, trivial⟩ (by trivial) rfl ?_)
    conv => whnf
    refine splF (by simp only [decide_eq_true_eq, decide_eq_false_iff_not, Bool.not_eq_true', Bool.not_eq_false', gt_iff_lt, ge_iff_le] <;> omega) ?_
    conv => whnf
    first | refine callF g1 ⟨.refl _, .refl _, trivial⟩ (by trivial) rfl ?_ | ((repeat (refine ⟨by kernel_rfl, ?_⟩; (conv => whnf))); refine callF g1 ⟨.refl _, .refl _, trivial⟩ (by trivial) rfl ?_)
    conv => whnf
    first | refine callF i1 ⟨.refl _, trivial⟩ (by trivial) rfl ?_ | ((repeat (refine ⟨by kernel_rfl, ?_⟩; (conv => whnf))); refine callF i1 ⟨.refl _, trivial⟩ (by trivial) rfl ?_)
    conv => whnf
    first | refine callF d1 ⟨.refl _, .refl _, trivial⟩ (by trivial) rfl ?_ | ((repeat (refine ⟨by kernel_rfl, ?_⟩; (conv => whnf))); refine callF d1 ⟨.refl _, .refl _, trivial⟩ (by trivial) rfl ?_)
    conv => whnf
    first | refine callF d2 ⟨.refl _, .refl _, trivial⟩ (by trivial) rfl ?_ | ((repeat (refine ⟨by kernel_rfl, ?_⟩; (conv => whnf))); refine callF d2 ⟨.refl _, .refl _, trivial⟩ (by trivial) rfl ?_)
    conv => whnf
    first | refine callF t2 ⟨.refl _, trivial⟩ (by trivial) rfl ?_ | ((repeat (refine ⟨by kernel_rfl, ?_⟩; (conv => whnf))); refine callF t2 ⟨.refl _, trivial⟩ (by trivial) rfl ?_)
    conv => whnf
    (repeat (refine ⟨by kernel_rfl, ?_⟩; (conv => whnf)))
    refine ⟨(by (try simp only [true_and, and_true, Nat.sub_zero, Nat.zero_add, Int.toNat_natCast]) <;> omega), ?_⟩
    exact .refl _

theorem qFromInt_ok (v : Int) (h : -9223372036854775808 ≤ v ∧ v ≤ 9223372036854775807) : ACall Try.prog 11 [.f (.int .i64 v)] (rat (v : Rat)) := by
  have f := iFromInt_ok v h
  have o := qone_ok
  refine acall_rule env [0, 2] Try.func11 rfl rfl rfl rfl ?_
  conv => whnf
  first | refine callF f ⟨.refl _, trivial⟩ (by trivial) rfl ?_ | ((repeat (refine ⟨by kernel_rfl, ?_⟩; (conv => whnf))); refine callF f ⟨.refl _, trivial⟩ (by trivial) rfl ?_)
  conv => whnf
  first | refine callF o trivial (by trivial) rfl ?_ | ((repeat (refine ⟨by kernel_rfl, ?_⟩; (conv => whnf))); refine callF o trivial (by trivial) rfl ?_)
  conv => whnf
  (repeat (refine ⟨by kernel_rfl, ?_⟩; (conv => whnf)))
  refine ⟨(by (try simp only [true_and, and_true, Nat.sub_zero, Nat.zero_add, Int.toNat_natCast]) <;> omega), ?_⟩
  exact .refl _

/-- as it comes, with the denominator apart -/
theorem parts_ok {x : AV} {q : Rat} {s : Nat} (hx : IsR x q s) (hs : s ≤ 4398046510000) :
    ∃ (p : AV) (P : Int) (h : Nat → Nat) (m : Nat), ACall Try.prog 42 [x] (.tup [p, rint false h m]) ∧ IsI p P s ∧ Dig h m ∧ m ≤ s ∧ nval h m ≠ 0 ∧ q = mkRat P (nval h m) := by
  obtain ⟨neg, g, n, h, m, _, hg, hh, hn, hm, h1⟩ := hx
  have b1 := Bits_ok h m hh (by omega)
  have hb := bitlen_zero (nval h m)
  by_cases h0 : nval h m = 0
  · refine ⟨int 0, 0, digit 1, size 1, ?_, isI_int 0 (Nat.zero_le _), digit_Dig _ _, h1, by rw [nval_digit_size]; decide, by rw [h0, Rat.mkRat_zero, Rat.zero_mkRat]⟩
    have f := iFromInt_ok 1 (by decide)
    rw [h0] at b1
    refine acall_rule env [0, 1, 2, 3, 7] Try.func42 rfl rfl rfl rfl ?_
    conv => whnf
    first | refine callF b1 ⟨.refl _, trivial⟩ (by trivial) rfl ?_ | ((repeat (refine ⟨by kernel_rfl, ?_⟩; (conv => whnf))); refine callF b1 ⟨.refl _, trivial⟩ (by trivial) rfl ?_)
    conv => whnf
    first | refine callF f ⟨.refl _, trivial⟩ (by trivial) rfl ?_ | ((repeat (refine ⟨by kernel_rfl, ?_⟩; (conv => whnf))); refine callF f ⟨.refl _, trivial⟩ (by trivial) rfl ?_)
    conv => whnf
    refine ⟨(by (try simp only [true_and, and_true, Nat.sub_zero, Nat.zero_add, Int.toNat_natCast]) <;> omega), ?_⟩
    exact .tup ⟨.int_zero, .refl _, trivial⟩
  · refine ⟨rint neg g n, _, h, m, ?_, .mk neg g n s hg hn, hh, hm, h0, rfl⟩
    have hb2 : ¬ (bitlen (nval h m) : Int) = 0 := fun h => h0 (hb.1 h)
    obtain ⟨B, hB⟩ : ∃ B : Int, (bitlen (nval h m) : Int) = B := ⟨_, rfl⟩
    rw [hB] at b1 hb2
    refine acall_rule env [0, 1, 2, 3, 7] Try.func42 rfl rfl rfl rfl ?_
    conv => whnf
    first | refine callF b1 ⟨.refl _, trivial⟩ (by trivial) rfl ?_ | ((repeat (refine ⟨by kernel_rfl, ?_⟩; (conv => whnf))); refine callF b1 ⟨.refl _, trivial⟩ (by trivial) rfl ?_)
    conv => whnf
    refine splF (by simp only [decide_eq_true_eq, decide_eq_false_iff_not, Bool.not_eq_true', Bool.not_eq_false', gt_iff_lt, ge_iff_le] <;> omega) ?_
    conv => whnf
    (repeat (refine ⟨by kernel_rfl, ?_⟩; (conv => whnf)))
    refine ⟨(by (try simp only [true_and, and_true, Nat.sub_zero, Nat.zero_add, Int.toNat_natCast]) <;> omega), ?_⟩
    exact .refl _

theorem qNorm_ok {x : AV} {q : Rat} {s : Nat} (hx : IsR x q s) (hs : s ≤ 4398046510000) : ACall Try.prog 9 [x] (rat q) := by
  obtain ⟨neg, g, n, h, m, _, hg, hh, hn, hm, h1⟩ := hx
  have b1 := Bits_ok h m hh (by omega)
  have hb := bitlen_zero (nval h m)
  by_cases h0 : nval h m = 0
  · have f := qFromInt_ok 0 (by decide)
    rw [h0] at b1 ⊢
    rw [Rat.mkRat_zero]
    refine acall_rule env [0, 1, 2, 6] Try.func9 rfl rfl rfl rfl ?_
    conv => whnf
    first | refine callF b1 ⟨.refl _, trivial⟩ (by trivial) rfl ?_ | ((repeat (refine ⟨by kernel_rfl, ?_⟩; (conv => whnf))); refine callF b1 ⟨.refl _, trivial⟩ (by trivial) rfl ?_)
    conv => whnf
    first | refine callF f ⟨.refl _, trivial⟩ (by trivial) rfl ?_ | ((repeat (refine ⟨by kernel_rfl, ?_⟩; (conv => whnf))); refine callF f ⟨.refl _, trivial⟩ (by trivial) rfl ?_)
    conv => whnf
    (repeat (refine ⟨by kernel_rfl, ?_⟩; (conv => whnf)))
    refine ⟨(by (try simp only [true_and, and_true, Nat.sub_zero, Nat.zero_add, Int.toNat_natCast]) <;> omega), ?_⟩
    exact .refl _
  · have r := reduced_ok (.mk neg g n s hg hn) h m hh hs (by omega) h0
    have hb2 : ¬ (bitlen (nval h m) : Int) = 0 := fun h => h0 (hb.1 h)
    obtain ⟨B, hB⟩ : ∃ B : Int, (bitlen (nval h m) : Int) = B := ⟨_, rfl⟩
    rw [hB] at b1 hb2
    refine acall_rule env [0, 1, 2, 6] Try.func9 rfl rfl rfl rfl ?_
    conv => whnf
    first | refine callF b1 ⟨.refl _, trivial⟩ (by trivial) rfl ?_ | ((repeat (refine ⟨by kernel_rfl, ?_⟩; (conv => whnf))); refine callF b1 ⟨.refl _, trivial⟩ (by trivial) rfl ?_)
    conv => whnf
    refine splF (by simp only [decide_eq_true_eq, decide_eq_false_iff_not, Bool.not_eq_true', Bool.not_eq_false', gt_iff_lt, ge_iff_le] <;> omega) ?_
    conv => whnf
    first | refine callF r ⟨.refl _, .refl _, trivial⟩ (by trivial) rfl ?_ | ((repeat (refine ⟨by kernel_rfl, ?_⟩; (conv => whnf))); refine callF r ⟨.refl _, .refl _, trivial⟩ (by trivial) rfl ?_)
    conv => whnf
    (repeat (refine ⟨by kernel_rfl, ?_⟩; (conv => whnf)))
    refine ⟨(by (try simp only [true_and, and_true, Nat.sub_zero, Nat.zero_add, Int.toNat_natCast]) <;> omega), ?_⟩
    exact .refl _

theorem qSign_ok {x : AV} {q : Rat} {s : Nat} (hx : IsR x q s) (hs : s ≤ 4398046510000) : ACall Try.prog 15 [x] (.f (.int .i64 (rcmp q 0))) := by
  obtain ⟨neg, g, n, h, m, _, hg, hh, hn, hm, h1⟩ := hx
  have b1 := Bits_ok h m hh (by omega)
  have hb := bitlen_zero (nval h m)
  by_cases h0 : nval h m = 0
  · rw [h0] at b1 ⊢
    rw [Rat.mkRat_zero, rcmp_self]
    refine acall_rule env [0, 1, 2, 6] Try.func15 rfl rfl rfl rfl ?_
    conv => whnf
    first | refine callF b1 ⟨.refl _, trivial⟩ (by trivial) rfl ?_ | ((repeat (refine ⟨by kernel_rfl, ?_⟩; (conv => whnf))); refine callF b1 ⟨.refl _, trivial⟩ (by trivial) rfl ?_)
    conv => whnf
    (repeat (refine ⟨by kernel_rfl, ?_⟩; (conv => whnf)))
    refine ⟨(by (try simp only [true_and, and_true, Nat.sub_zero, Nat.zero_add, Int.toNat_natCast]) <;> omega), ?_⟩
    exact .refl _
  · have r := iSign_ok (.mk neg g n s hg hn) (by omega)
    have hs : sgn (mkRat (ival neg (nval g n)) (nval h m)).num = sgn (ival neg (nval g n)) := by
      have h3 := mk_neg (ival neg (nval g n)) h0
      have h2 := Rat.mkRat_eq_zero (n := ival neg (nval g n)) h0
      rw [← Rat.num_eq_zero] at h2
      unfold sgn; simp only [h3, h2]
    rw [rcmp_num, hs]
    have hb2 : ¬ (bitlen (nval h m) : Int) = 0 := fun h => h0 (hb.1 h)
    obtain ⟨B, hB⟩ : ∃ B : Int, (bitlen (nval h m) : Int) = B := ⟨_, rfl⟩
    rw [hB] at b1 hb2
    refine acall_rule env [0, 1, 2, 6] Try.func15 rfl rfl rfl rfl ?_
    conv => whnf
    first | refine callF b1 ⟨.refl _, trivial⟩ (by trivial) rfl ?_ | ((repeat (refine ⟨by kernel_rfl, ?_⟩; (conv => whnf))); refine callF b1 ⟨.refl _, trivial⟩ (by trivial) rfl ?_)
    conv => whnf
    refine splF (by simp only [decide_eq_true_eq, decide_eq_false_iff_not, Bool.not_eq_true', Bool.not_eq_false', gt_iff_lt, ge_iff_le] <;> omega) ?_
    conv => whnf
    first | refine callF r ⟨.refl _, trivial⟩ (by trivial) rfl ?_ | ((repeat (refine ⟨by kernel_rfl, ?_⟩; (conv => whnf))); refine callF r ⟨.refl _, trivial⟩ (by trivial) rfl ?_)
    conv => whnf
    (repeat (refine ⟨by kernel_rfl, ?_⟩; (conv => whnf)))
    refine ⟨(by (try simp only [true_and, and_true, Nat.sub_zero, Nat.zero_add, Int.toNat_natCast]) <;> omega), ?_⟩
    exact .refl _

/-- what New answers -/
def rat0 : AV := .agg [.f (.bool false), nat 0, nat 0]
theorem AVle.rat0 {sz sz' : Nat} {at_ at' : Nat → List FV} {c c' : Option Nat} : AVle (.agg [.f (.bool false), .f (.sl sz at_ 0 c), .f (.sl sz' at' 0 c')]) rat0 := .agg ⟨.refl _, .nil_nat, .nil_nat, trivial⟩
def newRes (z d : Int) : AV := if d = 0 then .tup [rat0, .f (.bool false)] else .tup [rat (Rat.divInt z d), .f (.bool true)]
theorem New_ok {x y : AV} {z d : Int} {s t : Nat} (hx : IsI x z s) (hy : IsI y d t) (hs : s ≤ 4398046510000) (ht : t ≤ 4398046510000) :
    ACall Try.prog 4 [x, y] (newRes z d) := by
  have s1 := iSign_ok hy (by omega)
  have n1 := iNeg_ok hx (by omega)
  have sz := hx.size
  have r1 := fun h m hh hm h0 => reduced_ok hx h m hh hs hm h0
  have r2 := fun h m hh hm h0 => reduced_ok (isI_int (-z) (by rw [isz_neg]; exact sz)) h m hh hs hm h0
  obtain ⟨nx, gx, lx, _, hgx, hlx⟩ := hx
  obtain ⟨nd, h, m, _, hh, hm⟩ := hy
  generalize ival nx (nval gx lx) = z at *
  have hd : ival nd (nval h m) = 0 ↔ nval h m = 0 := by cases nd <;> simp [ival]
  unfold newRes
  by_cases h0 : nval h m = 0
  · rw [if_pos (hd.2 h0)]
    rw [hd.2 h0] at s1
    refine acall_rule env [0, 1, 2, 3, 4, 5, 8, 11] Try.func4 rfl rfl rfl rfl ?_
    conv => whnf
    first | refine callF s1 ⟨.refl _, trivial⟩ (by trivial) rfl ?_ | ((repeat (refine ⟨by kernel_rfl, ?_⟩; (conv => whnf))); refine callF s1 ⟨.refl _, trivial⟩ (by trivial) rfl ?_)
    conv => whnf
    refine ⟨(by (try simp only [true_and, and_true, Nat.sub_zero, Nat.zero_add, Int.toNat_natCast]) <;> omega), ?_⟩
    exact .tup ⟨.rat0, .refl _, trivial⟩
  · rw [if_neg (fun h => h0 (hd.1 h))]
    have hb2 : ¬ sgn (ival nd (nval h m)) = 0 := fun h => h0 (hd.1 (sgn_iff.1 h))
    obtain ⟨B, hB⟩ : ∃ B : Int, sgn (ival nd (nval h m)) = B := ⟨_, rfl⟩
    rw [hB] at s1 hb2
    replace r1 := r1 h m hh (by omega) h0
    replace r2 := r2 h m hh (by omega) h0
    cases nd
    · rw [ival_f, Rat.divInt_ofNat]
      refine acall_rule env [0, 1, 2, 3, 4, 5, 8, 11] Try.func4 rfl rfl rfl rfl ?_
      conv => whnf
      first | refine callF s1 ⟨.refl _, trivial⟩ (by trivial) rfl ?_ | ((repeat (refine ⟨by kernel_rfl, ?_⟩; (conv => whnf))); refine callF s1 ⟨.refl _, trivial⟩ (by trivial) rfl ?_)
      conv => whnf
      refine splF (by simp only [decide_eq_true_eq, decide_eq_false_iff_not, Bool.not_eq_true', Bool.not_eq_false', gt_iff_lt, ge_iff_le] <;> omega) ?_
      conv => whnf
      first | refine callF r1 ⟨.refl _, .refl _, trivial⟩ (by trivial) rfl ?_ | ((repeat (refine ⟨by kernel_rfl, ?_⟩; (conv => whnf))); refine callF r1 ⟨.refl _, .refl _, trivial⟩ (by trivial) rfl ?_)
      conv => whnf
      (repeat (refine ⟨by kernel_rfl, ?_⟩; (conv => whnf)))
      refine ⟨(by (try simp only [true_and, and_true, Nat.sub_zero, Nat.zero_add, Int.toNat_natCast]) <;> omega), ?_⟩
      exact .refl _
    · rw [ival_t, Rat.divInt_neg', Rat.divInt_ofNat]
      refine acall_rule env [0, 1, 2, 3, 4, 5, 8, 11] Try.func4 rfl rfl rfl rfl ?_
      conv => whnf
      first | refine callF s1 ⟨.refl _, trivial⟩ (by trivial) rfl ?_ | ((repeat (refine ⟨by kernel_rfl, ?_⟩; (conv => whnf))); refine callF s1 ⟨.refl _, trivial⟩ (by trivial) rfl ?_)
      conv => whnf
      refine splF (by simp only [decide_eq_true_eq, decide_eq_false_iff_not, Bool.not_eq_true', Bool.not_eq_false', gt_iff_lt, ge_iff_le] <;> omega) ?_
      conv => whnf
      first | refine callF n1 ⟨.refl _, trivial⟩ (by trivial) rfl ?_ | ((repeat (refine ⟨by kernel_rfl, ?_⟩; (conv => whnf))); refine callF n1 ⟨.refl _, trivial⟩ (by trivial) rfl ?_)
      conv => whnf
      first | refine callF r2 ⟨.refl _, .refl _, trivial⟩ (by trivial) rfl ?_ | ((repeat (refine ⟨by kernel_rfl, ?_⟩; (conv => whnf))); refine callF r2 ⟨.refl _, .refl _, trivial⟩ (by trivial) rfl ?_)
      conv => whnf
      (repeat (refine ⟨by kernel_rfl, ?_⟩; (conv => whnf)))
      refine ⟨(by (try simp only [true_and, and_true, Nat.sub_zero, Nat.zero_add, Int.toNat_natCast]) <;> omega), ?_⟩
      exact .refl _
end Go.Abs

/- Rational numbers: arithmetic. -/
set_option autoImplicit false
set_option maxHeartbeats 4000000
set_option maxRecDepth 10000
set_option linter.unusedVariables false
set_option linter.unusedSimpArgs false
namespace Go.Abs
open Go Go.Proofs

theorem reduced_nat {x : AV} {z : Int} {s : Nat} (hx : IsI x z s) (D : Nat) (hs : s ≤ 4398046510000) (hD : size D ≤ 4398046510000) (h0 : D ≠ 0) :
    ACall Try.prog 25 [x, nat D] (rat (mkRat z D)) := by
  have := reduced_ok hx (digit D) (size D) (digit_Dig _ _) hs hD (by rw [nval_digit_size]; exact h0)
  rw [nval_digit_size] at this; exact this


theorem qCompare_ok {x y : AV} {a b : Rat} {s t : Nat} (ha : IsR x a s) (hb : IsR y b t) (hs : s + t ≤ 4398046500000) :
    ACall Try.prog 17 [x, y] (.f (.int .i64 (rcmp a b))) := by
  obtain ⟨p, P, hp, mp, pa, ip, dp, lp, zp, ep⟩ := parts_ok ha (by omega)
  obtain ⟨r, R, hr, mr, pb, ir, dr, lr, zr, er⟩ := parts_ok hb (by omega)
  have jp := isI_pos dp lp
  have jr := isI_pos dr lr
  have sP := ip.size
  have sR := ir.size
  have sQ := Nat.le_trans (size_nval dp) lp
  have sS := Nat.le_trans (size_nval dr) lr
  have m1 := iMul_ok ip jr (by omega)
  have m2 := iMul_ok ir jp (by omega)
  have k1 := iCompare_ok (isI_int (P * (nval hr mr : Nat)) (isz_mul sP (by rw [isz_nat]; exact sS))) (isI_int (R * (nval hp mp : Nat)) (isz_mul sR (by rw [isz_nat]; exact sQ))) (by omega) (by omega)
  rw [rcmp_cross P R _ _ zp zr] at k1
  rw [ep, er]
  clear ep er
  obtain ⟨na, ga, n, ga', n', _, hga, hga', hn, hn', h1⟩ := ha
  obtain ⟨nb, gb, m, gb', m', _, hgb, hgb', hm, hm', h2⟩ := hb
  obtain ⟨np, gp, kp, _, hgp, hkp⟩ := ip
  obtain ⟨nr, gr, kr, _, hgr, hkr⟩ := ir
  generalize ival np (nval gp kp) = P at *
  generalize ival nr (nval gr kr) = R at *
  refine acall_rule env [0, 1, 2, 3, 4, 5, 6, 7, 8] Try.func17 rfl rfl rfl rfl ?_
  conv => whnf
  first | refine callF pa ⟨.refl _, trivial⟩ (by trivial) rfl ?_ | ((repeat (refine ⟨by kernel_rfl, ?_⟩; (conv => whnf))); refine callF pa ⟨.refl _, trivial⟩ (by trivial) rfl ?_)
  conv => whnf
  first | refine callF pb ⟨.refl _, trivial⟩ (by trivial) rfl ?_ | ((repeat (refine ⟨by kernel_rfl, ?_⟩; (conv => whnf))); refine callF pb ⟨.refl _, trivial⟩ (by trivial) rfl ?_)
  conv => whnf
  first | refine callF m1 ⟨.refl _, .refl _, trivial⟩ (by trivial) rfl ?_ | ((repeat (refine ⟨by kernel_rfl, ?_⟩; (conv => whnf))); refine callF m1 ⟨.refl _, .refl _, trivial⟩ (by trivial) rfl ?_)
  conv => whnf
  first | refine callF m2 ⟨.refl _, .refl _, trivial⟩ (by trivial) rfl ?_ | ((repeat (refine ⟨by kernel_rfl, ?_⟩; (conv => whnf))); refine callF m2 ⟨.refl _, .refl _, trivial⟩ (by trivial) rfl ?_)
  conv => whnf
  first | refine callF k1 ⟨.refl _, .refl _, trivial⟩ (by trivial) rfl ?_ | ((repeat (refine ⟨by kernel_rfl, ?_⟩; (conv => whnf))); refine callF k1 ⟨.refl _, .refl _, trivial⟩ (by trivial) rfl ?_)
  conv => whnf
  (repeat (refine ⟨by kernel_rfl, ?_⟩; (conv => whnf)))
  refine ⟨(by (try simp only [true_and, and_true, Nat.sub_zero, Nat.zero_add, Int.toNat_natCast]) <;> omega), ?_⟩
  exact .refl _

theorem qAdd_ok {x y : AV} {a b : Rat} {s t : Nat} (ha : IsR x a s) (hb : IsR y b t) (hs : s + t ≤ 4398046500000) :
    ACall Try.prog 33 [x, y] (rat (a + b)) := by
  obtain ⟨p, P, hp, mp, pa, ip, dp, lp, zp, ep⟩ := parts_ok ha (by omega)
  obtain ⟨r, R, hr, mr, pb, ir, dr, lr, zr, er⟩ := parts_ok hb (by omega)
  have jp := isI_pos dp lp
  have jr := isI_pos dr lr
  have sP := ip.size
  have sR := ir.size
  have sQ := Nat.le_trans (size_nval dp) lp
  have sS := Nat.le_trans (size_nval dr) lr
  have c1 := Compare_ok hp hr mp mr dp dr (by omega) (by omega)
  have a1 := iAdd_ok ip ir (by omega) (by omega)
  have m1 := iMul_ok ip jr (by omega)
  have m2 := iMul_ok ir jp (by omega)
  have zm1 := isz_mul sP (show isz (nval hr mr : Nat) ≤ t by rw [isz_nat]; exact sS)
  have zm2 := isz_mul sR (show isz (nval hp mp : Nat) ≤ s by rw [isz_nat]; exact sQ)
  have a2 := iAdd_ok (isI_int _ zm1) (isI_int _ zm2) (by omega) (by omega)
  have za1 := isz_add sP sR
  have za2 := isz_add zm1 zm2
  have m3 := Mul_ok hp hr mp mr dp dr (by omega)
  have zm3 := size_mul2 sQ sS
  have r1 := reduced_ok (isI_int _ za1) hp mp dp (by omega) (by omega) zp
  have r2 := reduced_nat (isI_int _ za2) _ (by omega) (Nat.le_trans zm3 (by omega)) (Nat.mul_ne_zero zp zr)
  have e := Rat.mkRat_add_mkRat P R zp zr
  rw [ep, er]
  clear ep er
  obtain ⟨na, ga, n, ga', n', _, hga, hga', hn, hn', h1⟩ := ha
  obtain ⟨nb, gb, m, gb', m', _, hgb, hgb', hm, hm', h2⟩ := hb
  obtain ⟨np, gp, kp, _, hgp, hkp⟩ := ip
  obtain ⟨nr, gr, kr, _, hgr, hkr⟩ := ir
  generalize ival np (nval gp kp) = P at *
  generalize ival nr (nval gr kr) = R at *
  rw [e]
  by_cases h : nval hp mp = nval hr mr
  · have e2 : mkRat (P * (nval hr mr : Nat) + R * (nval hp mp : Nat)) (nval hp mp * nval hr mr) = mkRat (P + R) (nval hp mp) := by
      rw [h, ← Int.add_mul, Rat.mkRat_mul_right (by rw [← h]; exact zp)]
    rw [e2]
    rw [show cmp (nval hp mp) (nval hr mr) = 0 by rw [h]; simp [cmp]] at c1
    refine acall_rule env [0, 1, 2, 3, 4, 5, 6, 7, 8, 24] Try.func33 rfl rfl rfl rfl ?_
    conv => whnf
    first | refine callF pa ⟨.refl _, trivial⟩ (by trivial) rfl ?_ | ((repeat (refine ⟨by kernel_rfl, ?_⟩; (conv => whnf))); refine callF pa ⟨.refl _, trivial⟩ (by trivial) rfl ?_)
    conv => whnf
    first | refine callF pb ⟨.refl _, trivial⟩ (by trivial) rfl ?_ | ((repeat (refine ⟨by kernel_rfl, ?_⟩; (conv => whnf))); refine callF pb ⟨.refl _, trivial⟩ (by trivial) rfl ?_)
    conv => whnf
    first | refine callF c1 ⟨.refl _, .refl _, trivial⟩ (by trivial) rfl ?_ | ((repeat (refine ⟨by kernel_rfl, ?_⟩; (conv => whnf))); refine callF c1 ⟨.refl _, .refl _, trivial⟩ (by trivial) rfl ?_)
    conv => whnf
    first | refine callF a1 ⟨.refl _, .refl _, trivial⟩ (by trivial) rfl ?_ | ((repeat (refine ⟨by kernel_rfl, ?_⟩; (conv => whnf))); refine callF a1 ⟨.refl _, .refl _, trivial⟩ (by trivial) rfl ?_)
    conv => whnf
    first | refine callF r1 ⟨.refl _, .refl _, trivial⟩ (by trivial) rfl ?_ | ((repeat (refine ⟨by kernel_rfl, ?_⟩; (conv => whnf))); refine callF r1 ⟨.refl _, .refl _, trivial⟩ (by trivial) rfl ?_)
    conv => whnf
    (repeat (refine ⟨by kernel_rfl, ?_⟩; (conv => whnf)))
    refine ⟨(by (try simp only [true_and, and_true, Nat.sub_zero, Nat.zero_add, Int.toNat_natCast]) <;> omega), ?_⟩
    exact .refl _
  · have hc : ¬ cmp (nval hp mp) (nval hr mr) = 0 := by
      unfold cmp; repeat' split
      all_goals omega
    obtain ⟨C, hC⟩ : ∃ C : Int, cmp (nval hp mp) (nval hr mr) = C := ⟨_, rfl⟩
    rw [hC] at c1 hc
    refine acall_rule env [0, 1, 2, 3, 4, 5, 6, 7, 8, 24] Try.func33 rfl rfl rfl rfl ?_
    conv => whnf
    first | refine callF pa ⟨.refl _, trivial⟩ (by trivial) rfl ?_ | ((repeat (refine ⟨by kernel_rfl, ?_⟩; (conv => whnf))); refine callF pa ⟨.refl _, trivial⟩ (by trivial) rfl ?_)
    conv => whnf
    first | refine callF pb ⟨.refl _, trivial⟩ (by trivial) rfl ?_ | ((repeat (refine ⟨by kernel_rfl, ?_⟩; (conv => whnf))); refine callF pb ⟨.refl _, trivial⟩ (by trivial) rfl ?_)
    conv => whnf
    first | refine callF c1 ⟨.refl _, .refl _, trivial⟩ (by trivial) rfl ?_ | ((repeat (refine ⟨by kernel_rfl, ?_⟩; (conv => whnf))); refine callF c1 ⟨.refl _, .refl _, trivial⟩ (by trivial) rfl ?_)
    conv => whnf
    refine splF (by simp only [decide_eq_true_eq, decide_eq_false_iff_not, Bool.not_eq_true', Bool.not_eq_false', gt_iff_lt, ge_iff_le] <;> omega) ?_
    conv => whnf
    first | refine callF m1 ⟨.refl _, .refl _, trivial⟩ (by trivial) rfl ?_ | ((repeat (refine ⟨by kernel_rfl, ?_⟩; (conv => whnf))); refine callF m1 ⟨.refl _, .refl _, trivial⟩ (by trivial) rfl ?_)
    conv => whnf
    first | refine callF m2 ⟨.refl _, .refl _, trivial⟩ (by trivial) rfl ?_ | ((repeat (refine ⟨by kernel_rfl, ?_⟩; (conv => whnf))); refine callF m2 ⟨.refl _, .refl _, trivial⟩ (by trivial) rfl ?_)
    conv => whnf
    first | refine callF a2 ⟨.refl _, .refl _, trivial⟩ (by trivial) rfl ?_ | ((repeat (refine ⟨by kernel_rfl, ?_⟩; (conv => whnf))); refine callF a2 ⟨.refl _, .refl _, trivial⟩ (by trivial) rfl ?_)
    conv => whnf
    first | refine callF m3 ⟨.refl _, .refl _, trivial⟩ (by trivial) rfl ?_ | ((repeat (refine ⟨by kernel_rfl, ?_⟩; (conv => whnf))); refine callF m3 ⟨.refl _, .refl _, trivial⟩ (by trivial) rfl ?_)
    conv => whnf
    first | refine callF r2 ⟨.refl _, .refl _, trivial⟩ (by trivial) rfl ?_ | ((repeat (refine ⟨by kernel_rfl, ?_⟩; (conv => whnf))); refine callF r2 ⟨.refl _, .refl _, trivial⟩ (by trivial) rfl ?_)
    conv => whnf
    (repeat (refine ⟨by kernel_rfl, ?_⟩; (conv => whnf)))
    refine ⟨(by (try simp only [true_and, and_true, Nat.sub_zero, Nat.zero_add, Int.toNat_natCast]) <;> omega), ?_⟩
    exact .refl _

def invRes (a : Rat) : AV := if a = 0 then .tup [rat0, .f (.bool false)] else .tup [rat a⁻¹, .f (.bool true)]
def qdivRes (a b : Rat) : AV := if b = 0 then .tup [rat0, .f (.bool false)] else .tup [rat (a / b), .f (.bool true)]

end Go.Abs

/- Rational numbers: Min, Max, roundings, Size. -/
set_option autoImplicit false
set_option maxHeartbeats 4000000
set_option maxRecDepth 10000
set_option linter.unusedVariables false
set_option linter.unusedSimpArgs false
namespace Go.Abs
open Go Go.Proofs

def rmin (a b : Rat) : Rat := if rcmp a b ≤ 0 then a else b
def rmax (a b : Rat) : Rat := if 0 ≤ rcmp a b then a else b


theorem qMin_ok {x y : AV} {a b : Rat} {s t : Nat} (ha : IsR x a s) (hb : IsR y b t) (hs : s + t ≤ 4398046500000) :
    ACall Try.prog 19 [x, y] (rat (rmin a b)) := by
  have c1 := qCompare_ok ha hb hs
  have n1 := qNorm_ok ha (by omega)
  have n2 := qNorm_ok hb (by omega)
  unfold rmin
  obtain ⟨na, ga, n, ga', n', _, hga, hga', hn, hn', h1⟩ := ha
  obtain ⟨nb, gb, m, gb', m', _, hgb, hgb', hm, hm', h2⟩ := hb
  generalize mkRat (ival na (nval ga n)) (nval ga' n') = a at *
  generalize mkRat (ival nb (nval gb m)) (nval gb' m') = b at *
  generalize rcmp a b = C at *
  by_cases h : C ≤ 0
  · rw [if_pos h]
    refine acall_rule env [0, 1, 2, 3, 4, 8] Try.func19 rfl rfl rfl rfl ?_
    conv => whnf
    first | refine callF c1 ⟨.refl _, .refl _, trivial⟩ (by trivial) rfl ?_ | ((repeat (refine ⟨by kernel_rfl, ?_⟩; (conv => whnf))); refine callF c1 ⟨.refl _, .refl _, trivial⟩ (by trivial) rfl ?_)
    conv => whnf
    refine splT (by simp only [decide_eq_true_eq, decide_eq_false_iff_not, Bool.not_eq_true', Bool.not_eq_false', gt_iff_lt, ge_iff_le] <;> omega) ?_
    conv => whnf
    first | refine callF n1 ⟨.refl _, trivial⟩ (by trivial) rfl ?_ | ((repeat (refine ⟨by kernel_rfl, ?_⟩; (conv => whnf))); refine callF n1 ⟨.refl _, trivial⟩ (by trivial) rfl ?_)
    conv => whnf
    (repeat (refine ⟨by kernel_rfl, ?_⟩; (conv => whnf)))
    refine ⟨(by (try simp only [true_and, and_true, Nat.sub_zero, Nat.zero_add, Int.toNat_natCast]) <;> omega), ?_⟩
    exact .refl _
  · rw [if_neg h]
    refine acall_rule env [0, 1, 2, 3, 4, 8] Try.func19 rfl rfl rfl rfl ?_
    conv => whnf
    first | refine callF c1 ⟨.refl _, .refl _, trivial⟩ (by trivial) rfl ?_ | ((repeat (refine ⟨by kernel_rfl, ?_⟩; (conv => whnf))); refine callF c1 ⟨.refl _, .refl _, trivial⟩ (by trivial) rfl ?_)
    conv => whnf
    refine splF (by simp only [decide_eq_true_eq, decide_eq_false_iff_not, Bool.not_eq_true', Bool.not_eq_false', gt_iff_lt, ge_iff_le] <;> omega) ?_
    conv => whnf
    first | refine callF n2 ⟨.refl _, trivial⟩ (by trivial) rfl ?_ | ((repeat (refine ⟨by kernel_rfl, ?_⟩; (conv => whnf))); refine callF n2 ⟨.refl _, trivial⟩ (by trivial) rfl ?_)
    conv => whnf
    (repeat (refine ⟨by kernel_rfl, ?_⟩; (conv => whnf)))
    refine ⟨(by (try simp only [true_and, and_true, Nat.sub_zero, Nat.zero_add, Int.toNat_natCast]) <;> omega), ?_⟩
    exact .refl _
theorem qMax_ok {x y : AV} {a b : Rat} {s t : Nat} (ha : IsR x a s) (hb : IsR y b t) (hs : s + t ≤ 4398046500000) :
    ACall Try.prog 21 [x, y] (rat (rmax a b)) := by
  have c1 := qCompare_ok ha hb hs
  have n1 := qNorm_ok ha (by omega)
  have n2 := qNorm_ok hb (by omega)
  unfold rmax
  obtain ⟨na, ga, n, ga', n', _, hga, hga', hn, hn', h1⟩ := ha
  obtain ⟨nb, gb, m, gb', m', _, hgb, hgb', hm, hm', h2⟩ := hb
  generalize mkRat (ival na (nval ga n)) (nval ga' n') = a at *
  generalize mkRat (ival nb (nval gb m)) (nval gb' m') = b at *
  generalize rcmp a b = C at *
  by_cases h : 0 ≤ C
  · rw [if_pos h]
    refine acall_rule env [0, 1, 2, 3, 4, 8] Try.func21 rfl rfl rfl rfl ?_
    conv => whnf
    first | refine callF c1 ⟨.refl _, .refl _, trivial⟩ (by trivial) rfl ?_ | ((repeat (refine ⟨by kernel_rfl, ?_⟩; (conv => whnf))); refine callF c1 ⟨.refl _, .refl _, trivial⟩ (by trivial) rfl ?_)
    conv => whnf
    refine splT (by simp only [decide_eq_true_eq, decide_eq_false_iff_not, Bool.not_eq_true', Bool.not_eq_false', gt_iff_lt, ge_iff_le] <;> omega) ?_
    conv => whnf
    first | refine callF n1 ⟨.refl _, trivial⟩ (by trivial) rfl ?_ | ((repeat (refine ⟨by kernel_rfl, ?_⟩; (conv => whnf))); refine callF n1 ⟨.refl _, trivial⟩ (by trivial) rfl ?_)
    conv => whnf
    (repeat (refine ⟨by kernel_rfl, ?_⟩; (conv => whnf)))
    refine ⟨(by (try simp only [true_and, and_true, Nat.sub_zero, Nat.zero_add, Int.toNat_natCast]) <;> omega), ?_⟩
    exact .refl _
  · rw [if_neg h]
    refine acall_rule env [0, 1, 2, 3, 4, 8] Try.func21 rfl rfl rfl rfl ?_
    conv => whnf
    first | refine callF c1 ⟨.refl _, .refl _, trivial⟩ (by trivial) rfl ?_ | ((repeat (refine ⟨by kernel_rfl, ?_⟩; (conv => whnf))); refine callF c1 ⟨.refl _, .refl _, trivial⟩ (by trivial) rfl ?_)
    conv => whnf
    refine splF (by simp only [decide_eq_true_eq, decide_eq_false_iff_not, Bool.not_eq_true', Bool.not_eq_false', gt_iff_lt, ge_iff_le] <;> omega) ?_
    conv => whnf
    first | refine callF n2 ⟨.refl _, trivial⟩ (by trivial) rfl ?_ | ((repeat (refine ⟨by kernel_rfl, ?_⟩; (conv => whnf))); refine callF n2 ⟨.refl _, trivial⟩ (by trivial) rfl ?_)
    conv => whnf
    (repeat (refine ⟨by kernel_rfl, ?_⟩; (conv => whnf)))
    refine ⟨(by (try simp only [true_and, and_true, Nat.sub_zero, Nat.zero_add, Int.toNat_natCast]) <;> omega), ?_⟩
    exact .refl _


theorem qFloor_ok {x : AV} {a : Rat} {s : Nat} (ha : IsR x a s) (hs : s ≤ 4398046500000) : ACall Try.prog 37 [x] (int a.floor) := by
  obtain ⟨p, P, hp, mp, pa, ip, dp, lp, zp, ep⟩ := parts_ok ha (by omega)
  have d1 := iDivMod_ok ip (isI_pos dp lp) (by omega) (by omega)
  unfold idivRes at d1
  rw [if_neg (by omega), ← mk_floor P zp, ← ep] at d1
  clear ep
  obtain ⟨na, ga, n, ga', n', _, hga, hga', hn, hn', h1⟩ := ha
  generalize mkRat (ival na (nval ga n)) (nval ga' n') = a at *
  obtain ⟨np, gp, kp, _, hgp, hkp⟩ := ip
  refine acall_rule env [0, 1, 2, 3, 4, 5] Try.func37 rfl rfl rfl rfl ?_
  conv => whnf
  first | refine callF pa ⟨.refl _, trivial⟩ (by trivial) rfl ?_ | ((repeat (refine ⟨by kernel_rfl, ?_⟩; (conv => whnf))); refine callF pa ⟨.refl _, trivial⟩ (by trivial) rfl ?_)
  conv => whnf
  first | refine callF d1 ⟨.refl _, .refl _, trivial⟩ (by trivial) rfl ?_ | ((repeat (refine ⟨by kernel_rfl, ?_⟩; (conv => whnf))); refine callF d1 ⟨.refl _, .refl _, trivial⟩ (by trivial) rfl ?_)
  conv => whnf
  (repeat (refine ⟨by kernel_rfl, ?_⟩; (conv => whnf)))
  refine ⟨(by (try simp only [true_and, and_true, Nat.sub_zero, Nat.zero_add, Int.toNat_natCast]) <;> omega), ?_⟩
  exact .refl _
theorem odd_abs (z : Int) : (digit z.natAbs 0 % 2 = 1) ↔ z % 2 = 1 := by
  unfold digit
  rw [pw_zero, Nat.div_one]
  omega
theorem qRound_ok {x : AV} {a : Rat} {s : Nat} (ha : IsR x a s) (hs : s ≤ 4398046500000) : ACall Try.prog 36 [x] (int (rround a)) := by
  obtain ⟨p, P, hp, mp, pa, ip, dp, lp, zp, ep⟩ := parts_ok ha (by omega)
  have d1 := iDivMod_ok ip (isI_pos dp lp) (by omega) (by omega)
  unfold idivRes at d1
  have hc := half_cross P zp
  have zr : isz (P % (nval hp mp : Nat)) ≤ s := Nat.le_trans (isz_emod P (nval hp mp : Nat) (by omega)) (by rw [isz_nat]; exact Nat.le_trans (size_nval dp) lp)
  have a1 := iAdd_ok (isI_int _ zr) (isI_int _ zr) (by omega) (by omega)
  have c1 := iCompare_ok (isI_int _ (isz_add zr zr)) (isI_pos dp lp) (by omega) (by omega)
  rw [hc, ← ep] at c1
  rw [if_neg (by omega), ← mk_floor P zp, ← ep] at d1
  have sa := ha.size
  have zf := rsz_floor a sa
  have f1 := iFromInt_ok 1 (by decide)
  have a2 := iAdd_ok (isI_int _ zf) (isI_int 1 (s := 1) (by decide)) (by omega) (by omega)
  unfold rround
  have hodd := odd_abs a.floor
  clear ep hc
  obtain ⟨na, ga, n, ga', n', _, hga, hga', hn, hn', h1⟩ := ha
  generalize mkRat (ival na (nval ga n)) (nval ga' n') = a at *
  generalize a.floor = f at *
  obtain ⟨np, gp, kp, _, hgp, hkp⟩ := ip
  obtain ⟨r, hr⟩ : ∃ r : Int, ival np (nval gp kp) % (nval hp mp : Nat) = r := ⟨_, rfl⟩
  rw [hr] at d1 a1 c1
  clear hr
  obtain ⟨C, hC⟩ : ∃ C : Int, rcmp (2 * (a - (f : Rat))) 1 = C := ⟨_, rfl⟩
  rw [hC] at c1 ⊢
  clear hC
  obtain ⟨D0, hD0⟩ : ∃ D0 : Nat, digit f.natAbs 0 = D0 := ⟨_, rfl⟩
  have hlt : D0 < 4294967296 := by rw [← hD0]; exact digit_lt _ _
  have hz : size f.natAbs = 0 → ¬ D0 % 2 = 1 := by
    intro h; rw [← hD0, size_eq_zero.1 h]; simp [digit]
  rw [hD0] at hodd
  by_cases hup : 0 < C ∨ C = 0 ∧ f % 2 = 1
  · rw [if_pos hup]
    refine acall_rule env [0, 1, 2, 3, 4, 5, 6, 8, 9, 47] Try.func36 rfl rfl rfl rfl ?_
    conv => whnf
    first | refine callF pa ⟨.refl _, trivial⟩ (by trivial) rfl ?_ | ((repeat (refine ⟨by kernel_rfl, ?_⟩; (conv => whnf))); refine callF pa ⟨.refl _, trivial⟩ (by trivial) rfl ?_)
    conv => whnf
    first | refine callF d1 ⟨.refl _, .refl _, trivial⟩ (by trivial) rfl ?_ | ((repeat (refine ⟨by kernel_rfl, ?_⟩; (conv => whnf))); refine callF d1 ⟨.refl _, .refl _, trivial⟩ (by trivial) rfl ?_)
    conv => whnf
    first | refine callF a1 ⟨.refl _, .refl _, trivial⟩ (by trivial) rfl ?_ | ((repeat (refine ⟨by kernel_rfl, ?_⟩; (conv => whnf))); refine callF a1 ⟨.refl _, .refl _, trivial⟩ (by trivial) rfl ?_)
    conv => whnf
    first | refine callF c1 ⟨.refl _, .refl _, trivial⟩ (by trivial) rfl ?_ | ((repeat (refine ⟨by kernel_rfl, ?_⟩; (conv => whnf))); refine callF c1 ⟨.refl _, .refl _, trivial⟩ (by trivial) rfl ?_)
    conv => whnf
    refine ⟨by kernel_rfl, ?_⟩
    conv => whnf
    refine spl (fun h3 => ?_) (fun h3 => ?_) <;> simp only [decide_eq_true_eq, decide_eq_false_iff_not, Bool.not_eq_true', Bool.not_eq_false', gt_iff_lt, ge_iff_le] at h3
    · conv => whnf
      refine ⟨(by (try simp only [true_and, and_true, Nat.sub_zero, Nat.zero_add, Int.toNat_natCast]) <;> omega), ?_⟩
      conv => whnf
      refine andN (a := digit f.natAbs 0) (b := 1) (digit f.natAbs 0 % 2) rfl (show _ < 4294967296 by rw [hD0]; exact hlt) (by decide) (Nat.and_one_is_mod _) ?_
      conv => whnf
      rw [hD0]
      refine spl (fun h4 => ?_) (fun h4 => ?_) <;> simp only [decide_eq_true_eq, decide_eq_false_iff_not, Bool.not_eq_true', Bool.not_eq_false', gt_iff_lt, ge_iff_le] at h4
      · conv => whnf
        first | refine callF f1 ⟨.refl _, trivial⟩ (by trivial) rfl ?_ | ((repeat (refine ⟨by kernel_rfl, ?_⟩; (conv => whnf))); refine callF f1 ⟨.refl _, trivial⟩ (by trivial) rfl ?_)
        conv => whnf
        first | refine callF a2 ⟨.refl _, .refl _, trivial⟩ (by trivial) rfl ?_ | ((repeat (refine ⟨by kernel_rfl, ?_⟩; (conv => whnf))); refine callF a2 ⟨.refl _, .refl _, trivial⟩ (by trivial) rfl ?_)
        conv => whnf
        (repeat (refine ⟨by kernel_rfl, ?_⟩; (conv => whnf)))
        refine ⟨(by (try simp only [true_and, and_true, Nat.sub_zero, Nat.zero_add, Int.toNat_natCast]) <;> omega), ?_⟩
        exact .refl _
      · conv => whnf
        refine splT (by simp only [decide_eq_true_eq, decide_eq_false_iff_not, Bool.not_eq_true', Bool.not_eq_false', gt_iff_lt, ge_iff_le] <;> omega) ?_
        conv => whnf
        refine splT (by simp only [decide_eq_true_eq, decide_eq_false_iff_not, Bool.not_eq_true', Bool.not_eq_false', gt_iff_lt, ge_iff_le] <;> omega) ?_
        conv => whnf
        first | refine callF f1 ⟨.refl _, trivial⟩ (by trivial) rfl ?_ | ((repeat (refine ⟨by kernel_rfl, ?_⟩; (conv => whnf))); refine callF f1 ⟨.refl _, trivial⟩ (by trivial) rfl ?_)
        conv => whnf
        first | refine callF a2 ⟨.refl _, .refl _, trivial⟩ (by trivial) rfl ?_ | ((repeat (refine ⟨by kernel_rfl, ?_⟩; (conv => whnf))); refine callF a2 ⟨.refl _, .refl _, trivial⟩ (by trivial) rfl ?_)
        conv => whnf
        (repeat (refine ⟨by kernel_rfl, ?_⟩; (conv => whnf)))
        refine ⟨(by (try simp only [true_and, and_true, Nat.sub_zero, Nat.zero_add, Int.toNat_natCast]) <;> omega), ?_⟩
        exact .refl _
    · conv => whnf
      have hz' := hz (by omega)
      refine splT (by simp only [decide_eq_true_eq, decide_eq_false_iff_not, Bool.not_eq_true', Bool.not_eq_false', gt_iff_lt, ge_iff_le] <;> omega) ?_
      conv => whnf
      first | refine callF f1 ⟨.refl _, trivial⟩ (by trivial) rfl ?_ | ((repeat (refine ⟨by kernel_rfl, ?_⟩; (conv => whnf))); refine callF f1 ⟨.refl _, trivial⟩ (by trivial) rfl ?_)
      conv => whnf
      first | refine callF a2 ⟨.refl _, .refl _, trivial⟩ (by trivial) rfl ?_ | ((repeat (refine ⟨by kernel_rfl, ?_⟩; (conv => whnf))); refine callF a2 ⟨.refl _, .refl _, trivial⟩ (by trivial) rfl ?_)
      conv => whnf
      (repeat (refine ⟨by kernel_rfl, ?_⟩; (conv => whnf)))
      refine ⟨(by (try simp only [true_and, and_true, Nat.sub_zero, Nat.zero_add, Int.toNat_natCast]) <;> omega), ?_⟩
      exact .refl _
  · rw [if_neg hup]
    refine acall_rule env [0, 1, 2, 3, 4, 5, 6, 8, 9, 47] Try.func36 rfl rfl rfl rfl ?_
    conv => whnf
    first | refine callF pa ⟨.refl _, trivial⟩ (by trivial) rfl ?_ | ((repeat (refine ⟨by kernel_rfl, ?_⟩; (conv => whnf))); refine callF pa ⟨.refl _, trivial⟩ (by trivial) rfl ?_)
    conv => whnf
    first | refine callF d1 ⟨.refl _, .refl _, trivial⟩ (by trivial) rfl ?_ | ((repeat (refine ⟨by kernel_rfl, ?_⟩; (conv => whnf))); refine callF d1 ⟨.refl _, .refl _, trivial⟩ (by trivial) rfl ?_)
    conv => whnf
    first | refine callF a1 ⟨.refl _, .refl _, trivial⟩ (by trivial) rfl ?_ | ((repeat (refine ⟨by kernel_rfl, ?_⟩; (conv => whnf))); refine callF a1 ⟨.refl _, .refl _, trivial⟩ (by trivial) rfl ?_)
    conv => whnf
    first | refine callF c1 ⟨.refl _, .refl _, trivial⟩ (by trivial) rfl ?_ | ((repeat (refine ⟨by kernel_rfl, ?_⟩; (conv => whnf))); refine callF c1 ⟨.refl _, .refl _, trivial⟩ (by trivial) rfl ?_)
    conv => whnf
    refine ⟨by kernel_rfl, ?_⟩
    conv => whnf
    refine spl (fun h3 => ?_) (fun h3 => ?_) <;> simp only [decide_eq_true_eq, decide_eq_false_iff_not, Bool.not_eq_true', Bool.not_eq_false', gt_iff_lt, ge_iff_le] at h3
    · conv => whnf
      refine ⟨(by (try simp only [true_and, and_true, Nat.sub_zero, Nat.zero_add, Int.toNat_natCast]) <;> omega), ?_⟩
      conv => whnf
      refine andN (a := digit f.natAbs 0) (b := 1) (digit f.natAbs 0 % 2) rfl (show _ < 4294967296 by rw [hD0]; exact hlt) (by decide) (Nat.and_one_is_mod _) ?_
      conv => whnf
      rw [hD0]
      refine splF (by simp only [decide_eq_true_eq, decide_eq_false_iff_not, Bool.not_eq_true', Bool.not_eq_false', gt_iff_lt, ge_iff_le] <;> omega) ?_
      conv => whnf
      refine spl (fun h4 => ?_) (fun h4 => ?_) <;> simp only [decide_eq_true_eq, decide_eq_false_iff_not, Bool.not_eq_true', Bool.not_eq_false', gt_iff_lt, ge_iff_le] at h4
      · conv => whnf
        refine splF (by simp only [decide_eq_true_eq, decide_eq_false_iff_not, Bool.not_eq_true', Bool.not_eq_false', gt_iff_lt, ge_iff_le] <;> omega) ?_
        conv => whnf
        (repeat (refine ⟨by kernel_rfl, ?_⟩; (conv => whnf)))
        refine ⟨(by (try simp only [true_and, and_true, Nat.sub_zero, Nat.zero_add, Int.toNat_natCast]) <;> omega), ?_⟩
        exact .refl _
      · conv => whnf
        (repeat (refine ⟨by kernel_rfl, ?_⟩; (conv => whnf)))
        refine ⟨(by (try simp only [true_and, and_true, Nat.sub_zero, Nat.zero_add, Int.toNat_natCast]) <;> omega), ?_⟩
        exact .refl _
    · conv => whnf
      refine splF (by simp only [decide_eq_true_eq, decide_eq_false_iff_not, Bool.not_eq_true', Bool.not_eq_false', gt_iff_lt, ge_iff_le] <;> omega) ?_
      conv => whnf
      refine spl (fun h4 => ?_) (fun h4 => ?_) <;> simp only [decide_eq_true_eq, decide_eq_false_iff_not, Bool.not_eq_true', Bool.not_eq_false', gt_iff_lt, ge_iff_le] at h4
      · conv => whnf
        (repeat (refine ⟨by kernel_rfl, ?_⟩; (conv => whnf)))
        refine ⟨(by (try simp only [true_and, and_true, Nat.sub_zero, Nat.zero_add, Int.toNat_natCast]) <;> omega), ?_⟩
        exact .refl _
      · conv => whnf
        (repeat (refine ⟨by kernel_rfl, ?_⟩; (conv => whnf)))
        refine ⟨(by (try simp only [true_and, and_true, Nat.sub_zero, Nat.zero_add, Int.toNat_natCast]) <;> omega), ?_⟩
        exact .refl _

theorem bitlen_size_le (N : Nat) : bitlen N ≤ 32 * size N := by
  refine bitlen_le ?_
  rw [← pw_two]
  exact lt_pw_size N
theorem qSize_ok {x : AV} {a : Rat} {s : Nat} (ha : IsR x a s) (hs : s ≤ 4398046500000) : ACall Try.prog 38 [x] (.f (.int .i64 ((bitlen a.num.natAbs + bitlen a.den : Nat) : Int))) := by
  have n1 := qNorm_ok ha (by omega)
  have sa := ha.size
  have b1 := Bits_ok (digit a.num.natAbs) (size a.num.natAbs) (digit_Dig _ _) (Nat.le_trans (rsz_num sa) (by omega))
  have b2 := Bits_ok (digit a.den) (size a.den) (digit_Dig _ _) (Nat.le_trans (rsz_den sa) (by omega))
  rw [nval_digit_size] at b1 b2
  have l1 := bitlen_size_le a.num.natAbs
  have l2 := bitlen_size_le a.den
  have z1 := rsz_num sa
  have z2 := rsz_den sa
  unfold isz at z1
  rw [Int.natCast_add]
  obtain ⟨na, ga, n, ga', n', _, hga, hga', hn, hn', h1⟩ := ha
  generalize mkRat (ival na (nval ga n)) (nval ga' n') = a at *
  generalize bitlen a.num.natAbs = N1 at *
  generalize bitlen a.den = N2 at *
  refine acall_rule env [0, 1, 2, 3] Try.func38 rfl rfl rfl rfl ?_
  conv => whnf
  first | refine callF n1 ⟨.refl _, trivial⟩ (by trivial) rfl ?_ | ((repeat (refine ⟨by kernel_rfl, ?_⟩; (conv => whnf))); refine callF n1 ⟨.refl _, trivial⟩ (by trivial) rfl ?_)
  conv => whnf
  first | refine callF b1 ⟨.refl _, trivial⟩ (by trivial) rfl ?_ | ((repeat (refine ⟨by kernel_rfl, ?_⟩; (conv => whnf))); refine callF b1 ⟨.refl _, trivial⟩ (by trivial) rfl ?_)
  conv => whnf
  first | refine callF b2 ⟨.refl _, trivial⟩ (by trivial) rfl ?_ | ((repeat (refine ⟨by kernel_rfl, ?_⟩; (conv => whnf))); refine callF b2 ⟨.refl _, trivial⟩ (by trivial) rfl ?_)
  conv => whnf
  refine fit64 (by omega) ?_
  conv => whnf
  (repeat (refine ⟨by kernel_rfl, ?_⟩; (conv => whnf)))
  refine ⟨(by (try simp only [true_and, and_true, Nat.sub_zero, Nat.zero_add, Int.toNat_natCast]) <;> omega), ?_⟩
  exact .refl _
end Go.Abs

/- The reference's rational numbers: Make, Norm. -/
set_option autoImplicit false
set_option maxHeartbeats 4000000
set_option maxRecDepth 10000
set_option linter.unusedVariables false
set_option linter.unusedSimpArgs false
namespace Go.Abs
open Go Go.Proofs

theorem AVle.nat_one {at_ : Nat → List FV} {c : Option Nat} (h : at_ 0 = [.int .u32 1]) : AVle (.f (.sl 1 at_ 1 c)) (nat 1) := by
  have : nat 1 = .f (.sl 1 (fun j => [.int .u32 (digit 1 j : Nat)]) 1 none) := by unfold nat; rw [size_one]
  rw [this]
  refine .f (.sl (fun i hi => ?_) (.inl rfl))
  obtain rfl : i = 0 := by omega
  rw [h, show digit 1 0 = 1 by decide]
  exact ⟨.refl _, trivial⟩
theorem sZero_ok : ACall Try.prog 29 [] (rat 0) := by
  refine acall_rule env [0] Try.func29 rfl rfl rfl rfl ?_
  conv => whnf
  refine ⟨?_, ?_⟩
  · decide
  · exact .agg ⟨.refl _, .nil_nat, .nat_one rfl, trivial⟩

theorem int_minus (n : Nat) (h : n ≠ 0) : int (-(n : Int)) = .agg [.f (.bool true), nat n] := by
  unfold int
  rw [decide_eq_true (by omega), Int.natAbs_neg, Int.natAbs_natCast]

theorem sMake_ok {x y : AV} {z d : Int} {s t : Nat} (hx : IsI x z s) (hy : IsI y d t) (hs : s ≤ 4398046500000) (ht : t ≤ 4398046500000) :
    ACall Try.prog 7 [x, y] (rat (Rat.divInt z d)) := by
  have s1 := rSign_ok hy (by omega)
  have n1 := rNorm_ok hy (by omega)
  have n2 := rNorm_ok hx (by omega)
  have g1 := rGCD_ok hx hy (by omega) (by omega)
  have q1 := refEqual_nn d.natAbs 1 (Nat.le_trans hy.size (by omega))
  have sx := hx.size
  have sy := hy.size
  have sG : d ≠ 0 → size (Nat.gcd z.natAbs d.natAbs) ≤ t := fun h => size_le_of (Nat.gcd_le_right _ (by omega)) sy
  have d1 := fun h => rDivMod_ok hx (isI_int (Nat.gcd z.natAbs d.natAbs : Nat) (by rw [isz_nat]; exact sG h)) (by omega) (by omega)
  have d2 := fun h => rDivMod_ok hy (isI_int (Nat.gcd z.natAbs d.natAbs : Nat) (by rw [isz_nat]; exact sG h)) (by omega) (by omega)
  obtain ⟨nx, gx, lx, _, hgx, hlx⟩ := hx
  obtain ⟨ny, gy, ly, _, hgy, hly⟩ := hy
  generalize ival nx (nval gx lx) = z at *
  generalize ival ny (nval gy ly) = d at *
  have z0 := sZero_ok
  by_cases h0 : d = 0
  · subst h0
    rw [Rat.divInt_zero]
    refine acall_rule env [0, 1, 2, 3, 4, 5, 6, 7, 10, 15, 27, 51] Try.func7 rfl rfl rfl rfl ?_
    conv => whnf
    first | refine callF s1 ⟨.refl _, trivial⟩ (by trivial) rfl ?_ | ((repeat (refine ⟨by kernel_rfl, ?_⟩; (conv => whnf))); refine callF s1 ⟨.refl _, trivial⟩ (by trivial) rfl ?_)
    conv => whnf
    first | refine callF z0 trivial (by trivial) rfl ?_ | ((repeat (refine ⟨by kernel_rfl, ?_⟩; (conv => whnf))); refine callF z0 trivial (by trivial) rfl ?_)
    conv => whnf
    (repeat (refine ⟨by kernel_rfl, ?_⟩; (conv => whnf)))
    refine ⟨(by (try simp only [true_and, and_true, Nat.sub_zero, Nat.zero_add, Int.toNat_natCast]) <;> omega), ?_⟩
    exact .refl _
  have hs0 : ¬ sgn d = 0 := fun h => h0 (sgn_iff.1 h)
  obtain ⟨S, hS⟩ : ∃ S, sgn d = S := ⟨_, rfl⟩
  rw [hS] at s1 hs0
  clear hS
  replace d1 := d1 h0
  replace d2 := d2 h0
  unfold idivRes at d1 d2
  have hG0 : ((Nat.gcd z.natAbs d.natAbs : Nat) : Int) ≠ 0 := by
    have : 0 < Nat.gcd z.natAbs d.natAbs := Nat.gcd_pos_of_pos_right _ (by omega)
    omega
  rw [if_neg hG0] at d1 d2
  by_cases hd : d < 0
  · obtain ⟨D, rfl⟩ : ∃ D : Nat, d = -(D : Int) := ⟨d.natAbs, by omega⟩
    have hD : D ≠ 0 := by omega
    rw [Int.natAbs_neg, Int.natAbs_natCast] at *
    rw [Rat.divInt_neg', Rat.divInt_ofNat]
    rw [int_minus D hD] at n1
    have e1 : -(z / ((Nat.gcd z.natAbs D : Nat) : Int)) = (mkRat (-z) D).num := by
      rw [Rat.num_mkRat, if_neg hD, Int.natAbs_neg, Nat.gcd_comm D, Int.neg_ediv_of_dvd (Rat.normalize.dvd_num rfl)]
    have e2 : -(D : Int) / ((Nat.gcd z.natAbs D : Nat) : Int) = -(((mkRat (-z) D).den : Nat) : Int) := by
      rw [Rat.den_mkRat, if_neg hD, Int.natAbs_neg, Nat.gcd_comm D, Int.natCast_ediv, Int.neg_ediv_of_dvd]
      exact Int.natCast_dvd_natCast.2 (Nat.gcd_dvd_right _ _)
    have hden := (mkRat (-z) D).den_nz
    have sq := rsz_mk (-z) D (s := max s t + 1) (by rw [isz_neg]; omega) (by have := sy; rw [isz_neg, isz_nat] at this; omega) (by omega)
    rw [e2, int_minus _ hden] at d2
    have e3 : z / ((Nat.gcd z.natAbs D : Nat) : Int) = -(mkRat (-z) D).num := by rw [← e1]; omega
    rw [e3] at d1
    generalize mkRat (-z) D = q at *
    have r1 := rNeg_ok (isI_int (-q.num) (s := max s t + 1) (by rw [isz_neg]; exact rsz_num sq)) (by omega)
    have r2 := rNeg_ok (isI_int (-(q.den : Int)) (s := max s t + 1) (by rw [isz_neg, isz_nat]; exact rsz_den sq)) (by omega)
    rw [Int.neg_neg] at r1 r2
    rw [int_minus _ hden, int_nonneg] at r2
    refine acall_rule env [0, 1, 2, 3, 4, 5, 6, 7, 10, 15, 27, 51] Try.func7 rfl rfl rfl rfl ?_
    conv => whnf
    first | refine callF s1 ⟨.refl _, trivial⟩ (by trivial) rfl ?_ | ((repeat (refine ⟨by kernel_rfl, ?_⟩; (conv => whnf))); refine callF s1 ⟨.refl _, trivial⟩ (by trivial) rfl ?_)
    conv => whnf
    refine splF (by simp only [decide_eq_true_eq, decide_eq_false_iff_not, Bool.not_eq_true', Bool.not_eq_false', gt_iff_lt, ge_iff_le] <;> omega) ?_
    conv => whnf
    first | refine callF n1 ⟨.refl _, trivial⟩ (by trivial) rfl ?_ | ((repeat (refine ⟨by kernel_rfl, ?_⟩; (conv => whnf))); refine callF n1 ⟨.refl _, trivial⟩ (by trivial) rfl ?_)
    conv => whnf
    first | refine callF g1 ⟨.refl _, .refl _, trivial⟩ (by trivial) rfl ?_ | ((repeat (refine ⟨by kernel_rfl, ?_⟩; (conv => whnf))); refine callF g1 ⟨.refl _, .refl _, trivial⟩ (by trivial) rfl ?_)
    conv => whnf
    first | refine callF d1 ⟨.refl _, .refl _, trivial⟩ (by trivial) rfl ?_ | ((repeat (refine ⟨by kernel_rfl, ?_⟩; (conv => whnf))); refine callF d1 ⟨.refl _, .refl _, trivial⟩ (by trivial) rfl ?_)
    conv => whnf
    first | refine callF d2 ⟨.refl _, .refl _, trivial⟩ (by trivial) rfl ?_ | ((repeat (refine ⟨by kernel_rfl, ?_⟩; (conv => whnf))); refine callF d2 ⟨.refl _, .refl _, trivial⟩ (by trivial) rfl ?_)
    conv => whnf
    first | refine callF r1 ⟨.refl _, trivial⟩ (by trivial) rfl ?_ | ((repeat (refine ⟨by kernel_rfl, ?_⟩; (conv => whnf))); refine callF r1 ⟨.refl _, trivial⟩ (by trivial) rfl ?_)
    conv => whnf
    first | refine callF r2 ⟨.refl _, trivial⟩ (by trivial) rfl ?_ | ((repeat (refine ⟨by kernel_rfl, ?_⟩; (conv => whnf))); refine callF r2 ⟨.refl _, trivial⟩ (by trivial) rfl ?_)
    conv => whnf
    (repeat (refine ⟨by kernel_rfl, ?_⟩; (conv => whnf)))
    refine ⟨(by (try simp only [true_and, and_true, Nat.sub_zero, Nat.zero_add, Int.toNat_natCast]) <;> omega), ?_⟩
    exact .refl _
  · obtain ⟨D, rfl⟩ : ∃ D : Nat, d = (D : Int) := ⟨d.natAbs, by omega⟩
    have hD : D ≠ 0 := by omega
    rw [Int.natAbs_natCast] at *
    rw [Rat.divInt_ofNat]
    rw [int_nonneg] at n1
    by_cases h1 : D = 1
    · subst h1
      rw [decide_eq_true rfl] at q1
      have e : rat (mkRat z 1) = .agg [.f (.bool (decide (z < 0))), nat z.natAbs, nat 1] := by
        rw [mk_rat z hD, Nat.gcd_one_right, Nat.div_one, Nat.div_one]
      rw [e]
      refine acall_rule env [0, 1, 2, 3, 4, 5, 6, 7, 10, 15, 27, 51] Try.func7 rfl rfl rfl rfl ?_
      conv => whnf
      first | refine callF s1 ⟨.refl _, trivial⟩ (by trivial) rfl ?_ | ((repeat (refine ⟨by kernel_rfl, ?_⟩; (conv => whnf))); refine callF s1 ⟨.refl _, trivial⟩ (by trivial) rfl ?_)
      conv => whnf
      refine splF (by simp only [decide_eq_true_eq, decide_eq_false_iff_not, Bool.not_eq_true', Bool.not_eq_false', gt_iff_lt, ge_iff_le] <;> omega) ?_
      conv => whnf
      first | refine callF n1 ⟨.refl _, trivial⟩ (by trivial) rfl ?_ | ((repeat (refine ⟨by kernel_rfl, ?_⟩; (conv => whnf))); refine callF n1 ⟨.refl _, trivial⟩ (by trivial) rfl ?_)
      conv => whnf
      refine callF q1 ⟨.refl _, .nat_one rfl, trivial⟩ ?_ rfl ?_
      conv => whnf
      · decide
      first | refine callF n2 ⟨.refl _, trivial⟩ (by trivial) rfl ?_ | ((repeat (refine ⟨by kernel_rfl, ?_⟩; (conv => whnf))); refine callF n2 ⟨.refl _, trivial⟩ (by trivial) rfl ?_)
      conv => whnf
      (repeat (refine ⟨by kernel_rfl, ?_⟩; (conv => whnf)))
      refine ⟨(by (try simp only [true_and, and_true, Nat.sub_zero, Nat.zero_add, Int.toNat_natCast]) <;> omega), ?_⟩
      exact .refl _
    have e1 : z / ((Nat.gcd z.natAbs D : Nat) : Int) = (mkRat z D).num := by
      rw [Rat.num_mkRat, if_neg hD, Nat.gcd_comm]
    have e2 : (D : Int) / ((Nat.gcd z.natAbs D : Nat) : Int) = (((mkRat z D).den : Nat) : Int) := by
      rw [Rat.den_mkRat, if_neg hD, Nat.gcd_comm, Int.natCast_ediv]
    rw [e2, int_nonneg] at d2
    rw [e1] at d1
    generalize mkRat z D = q at *
    rw [decide_eq_false h1] at q1
    refine acall_rule env [0, 1, 2, 3, 4, 5, 6, 7, 10, 15, 27, 51] Try.func7 rfl rfl rfl rfl ?_
    conv => whnf
    first | refine callF s1 ⟨.refl _, trivial⟩ (by trivial) rfl ?_ | ((repeat (refine ⟨by kernel_rfl, ?_⟩; (conv => whnf))); refine callF s1 ⟨.refl _, trivial⟩ (by trivial) rfl ?_)
    conv => whnf
    refine splF (by simp only [decide_eq_true_eq, decide_eq_false_iff_not, Bool.not_eq_true', Bool.not_eq_false', gt_iff_lt, ge_iff_le] <;> omega) ?_
    conv => whnf
    first | refine callF n1 ⟨.refl _, trivial⟩ (by trivial) rfl ?_ | ((repeat (refine ⟨by kernel_rfl, ?_⟩; (conv => whnf))); refine callF n1 ⟨.refl _, trivial⟩ (by trivial) rfl ?_)
    conv => whnf
    refine callF q1 ⟨.refl _, .nat_one rfl, trivial⟩ ?_ rfl ?_
    conv => whnf
    · decide
    first | refine callF g1 ⟨.refl _, .refl _, trivial⟩ (by trivial) rfl ?_ | ((repeat (refine ⟨by kernel_rfl, ?_⟩; (conv => whnf))); refine callF g1 ⟨.refl _, .refl _, trivial⟩ (by trivial) rfl ?_)
    conv => whnf
    first | refine callF d1 ⟨.refl _, .refl _, trivial⟩ (by trivial) rfl ?_ | ((repeat (refine ⟨by kernel_rfl, ?_⟩; (conv => whnf))); refine callF d1 ⟨.refl _, .refl _, trivial⟩ (by trivial) rfl ?_)
    conv => whnf
    first | refine callF d2 ⟨.refl _, .refl _, trivial⟩ (by trivial) rfl ?_ | ((repeat (refine ⟨by kernel_rfl, ?_⟩; (conv => whnf))); refine callF d2 ⟨.refl _, .refl _, trivial⟩ (by trivial) rfl ?_)
    conv => whnf
    (repeat (refine ⟨by kernel_rfl, ?_⟩; (conv => whnf)))
    refine ⟨(by (try simp only [true_and, and_true, Nat.sub_zero, Nat.zero_add, Int.toNat_natCast]) <;> omega), ?_⟩
    exact .refl _
end Go.Abs

/- The reference's rational numbers. -/
set_option autoImplicit false
set_option maxHeartbeats 4000000
set_option maxRecDepth 10000
set_option linter.unusedVariables false
set_option linter.unusedSimpArgs false
namespace Go.Abs
open Go Go.Proofs


theorem divInt_one (v : Int) : Rat.divInt v 1 = (v : Rat) := by
  show Rat.divInt v ((1 : Nat) : Int) = _
  rw [Rat.divInt_ofNat]; exact Rat.mkRat_self (v : Rat)
theorem sNorm_ok {x : AV} {a : Rat} {s : Nat} (ha : IsR x a s) (hs : s ≤ 4398046500000) : ACall Try.prog 10 [x] (rat a) := by
  obtain ⟨na, ga, n, ga', n', _, hga, hga', hn, hn', h1⟩ := ha
  have m := sMake_ok (.mk na ga n s hga hn) (isI_pos hga' hn') hs hs
  rw [Rat.divInt_ofNat] at m
  generalize mkRat (ival na (nval ga n)) (nval ga' n') = a at *
  refine acall_rule env [0, 1, 2] Try.func10 rfl rfl rfl rfl ?_
  conv => whnf
  first | refine callF m ⟨.refl _, .refl _, trivial⟩ (by trivial) rfl ?_ | ((repeat (refine ⟨by kernel_rfl, ?_⟩; (conv => whnf))); refine callF m ⟨.refl _, .refl _, trivial⟩ (by trivial) rfl ?_)
  conv => whnf
  (repeat (refine ⟨by kernel_rfl, ?_⟩; (conv => whnf)))
  refine ⟨(by (try simp only [true_and, and_true, Nat.sub_zero, Nat.zero_add, Int.toNat_natCast]) <;> omega), ?_⟩
  exact .refl _
theorem sEqual_ok (a b : Rat) (h : rsz a ≤ 4398046500000) : ACall Try.prog 6 [rat a, rat b] (.f (.bool (decide (a = b)))) := by
  have e1 := rEqual_ii a.num b.num (Nat.le_trans (rsz_num h) (by omega))
  have e2 := refEqual_nn a.den b.den (Nat.le_trans (rsz_den h) (by omega))
  have hab : a = b ↔ a.num = b.num ∧ a.den = b.den := ⟨fun h => by rw [h]; exact ⟨rfl, rfl⟩, fun h => Rat.ext h.1 h.2⟩
  by_cases h1 : a.num = b.num
  · rw [show decide (a = b) = decide (a.den = b.den) by simp only [hab, h1, true_and]]
    rw [decide_eq_true h1] at e1
    refine acall_rule env [0, 1, 2, 3, 4] Try.func6 rfl rfl rfl rfl ?_
    conv => whnf
    first | refine callF e1 ⟨.refl _, .refl _, trivial⟩ (by trivial) rfl ?_ | ((repeat (refine ⟨by kernel_rfl, ?_⟩; (conv => whnf))); refine callF e1 ⟨.refl _, .refl _, trivial⟩ (by trivial) rfl ?_)
    conv => whnf
    first | refine callF e2 ⟨.refl _, .refl _, trivial⟩ (by trivial) rfl ?_ | ((repeat (refine ⟨by kernel_rfl, ?_⟩; (conv => whnf))); refine callF e2 ⟨.refl _, .refl _, trivial⟩ (by trivial) rfl ?_)
    conv => whnf
    (repeat (refine ⟨by kernel_rfl, ?_⟩; (conv => whnf)))
    refine ⟨(by (try simp only [true_and, and_true, Nat.sub_zero, Nat.zero_add, Int.toNat_natCast]) <;> omega), ?_⟩
    exact .refl _
  · rw [show decide (a = b) = false by simp only [hab, h1, false_and, decide_false]]
    rw [decide_eq_false h1] at e1
    refine acall_rule env [0, 1, 2, 3, 4] Try.func6 rfl rfl rfl rfl ?_
    conv => whnf
    first | refine callF e1 ⟨.refl _, .refl _, trivial⟩ (by trivial) rfl ?_ | ((repeat (refine ⟨by kernel_rfl, ?_⟩; (conv => whnf))); refine callF e1 ⟨.refl _, .refl _, trivial⟩ (by trivial) rfl ?_)
    conv => whnf
    (repeat (refine ⟨by kernel_rfl, ?_⟩; (conv => whnf)))
    refine ⟨(by (try simp only [true_and, and_true, Nat.sub_zero, Nat.zero_add, Int.toNat_natCast]) <;> omega), ?_⟩
    exact .refl _
theorem sEqual_same (a : Rat) (h : rsz a ≤ 4398046500000) : ACall Try.prog 6 [rat a, rat a] (.f (.bool true)) := by
  have := sEqual_ok a a h
  rwa [decide_eq_true rfl] at this
theorem sEqual_rat0 : ACall Try.prog 6 [rat0, rat0] (.f (.bool true)) := by
  have e1 := rEqual_raw false false (digit 0) (digit 0) (size 0) (size 0) (digit_Dig _ _) (digit_Dig _ _) (by decide)
  have e2 := refEqual_nn 0 0 (by decide)
  rw [decide_eq_true (by simp)] at e1 e2
  refine acall_rule env [0, 1, 2, 3, 4] Try.func6 rfl rfl rfl rfl ?_
  conv => whnf
  first | refine callF e1 ⟨.refl _, .refl _, trivial⟩ (by trivial) rfl ?_ | ((repeat (refine ⟨by kernel_rfl, ?_⟩; (conv => whnf))); refine callF e1 ⟨.refl _, .refl _, trivial⟩ (by trivial) rfl ?_)
  conv => whnf
  first | refine callF e2 ⟨.refl _, .refl _, trivial⟩ (by trivial) rfl ?_ | ((repeat (refine ⟨by kernel_rfl, ?_⟩; (conv => whnf))); refine callF e2 ⟨.refl _, .refl _, trivial⟩ (by trivial) rfl ?_)
  conv => whnf
  (repeat (refine ⟨by kernel_rfl, ?_⟩; (conv => whnf)))
  refine ⟨(by (try simp only [true_and, and_true, Nat.sub_zero, Nat.zero_add, Int.toNat_natCast]) <;> omega), ?_⟩
  exact .refl _
theorem sDen_ok {x : AV} {a : Rat} {s : Nat} (ha : IsR x a s) (hs : s ≤ 4398046500000) : ACall Try.prog 81 [x] (int (a.den : Nat)) := by
  have n := sNorm_ok ha hs
  rw [int_nonneg]
  obtain ⟨na, ga, la, ga', la', _, hga, hga', hn, hn', h1⟩ := ha
  generalize mkRat (ival na (nval ga la)) (nval ga' la') = a at *
  refine acall_rule env [0, 1, 2] Try.func81 rfl rfl rfl rfl ?_
  conv => whnf
  first | refine callF n ⟨.refl _, trivial⟩ (by trivial) rfl ?_ | ((repeat (refine ⟨by kernel_rfl, ?_⟩; (conv => whnf))); refine callF n ⟨.refl _, trivial⟩ (by trivial) rfl ?_)
  conv => whnf
  (repeat (refine ⟨by kernel_rfl, ?_⟩; (conv => whnf)))
  refine ⟨(by (try simp only [true_and, and_true, Nat.sub_zero, Nat.zero_add, Int.toNat_natCast]) <;> omega), ?_⟩
  exact .refl _
theorem sFromInt_ok (v : Int) (h : -9223372036854775808 ≤ v ∧ v ≤ 9223372036854775807) : ACall Try.prog 12 [.f (.int .i64 v)] (rat (v : Rat)) := by
  have f := rFromInt_ok v h
  have o := rFromInt_ok 1 (by decide)
  have m := sMake_ok (isI_int v (s := 2) (isz_small (by omega))) (isI_int 1 (s := 1) (by decide)) (by omega) (by omega)
  rw [divInt_one] at m
  refine acall_rule env [0, 2] Try.func12 rfl rfl rfl rfl ?_
  conv => whnf
  first | refine callF f ⟨.refl _, trivial⟩ (by trivial) rfl ?_ | ((repeat (refine ⟨by kernel_rfl, ?_⟩; (conv => whnf))); refine callF f ⟨.refl _, trivial⟩ (by trivial) rfl ?_)
  conv => whnf
  first | refine callF o ⟨.refl _, trivial⟩ (by trivial) rfl ?_ | ((repeat (refine ⟨by kernel_rfl, ?_⟩; (conv => whnf))); refine callF o ⟨.refl _, trivial⟩ (by trivial) rfl ?_)
  conv => whnf
  first | refine callF m ⟨.refl _, .refl _, trivial⟩ (by trivial) rfl ?_ | ((repeat (refine ⟨by kernel_rfl, ?_⟩; (conv => whnf))); refine callF m ⟨.refl _, .refl _, trivial⟩ (by trivial) rfl ?_)
  conv => whnf
  (repeat (refine ⟨by kernel_rfl, ?_⟩; (conv => whnf)))
  refine ⟨(by (try simp only [true_and, and_true, Nat.sub_zero, Nat.zero_add, Int.toNat_natCast]) <;> omega), ?_⟩
  exact .refl _
theorem sOf_ok (n d : Int) (hn : -9223372036854775808 ≤ n ∧ n ≤ 9223372036854775807) (hd : -9223372036854775808 ≤ d ∧ d ≤ 9223372036854775807) : ACall Try.prog 34 [.f (.int .i64 n), .f (.int .i64 d)] (rat (Rat.divInt n d)) := by
  have f := rFromInt_ok n hn
  have o := rFromInt_ok d hd
  have m := sMake_ok (isI_int n (s := 2) (isz_small (by omega))) (isI_int d (s := 2) (isz_small (by omega))) (by omega) (by omega)
  refine acall_rule env [0, 1, 4] Try.func34 rfl rfl rfl rfl ?_
  conv => whnf
  first | refine callF f ⟨.refl _, trivial⟩ (by trivial) rfl ?_ | ((repeat (refine ⟨by kernel_rfl, ?_⟩; (conv => whnf))); refine callF f ⟨.refl _, trivial⟩ (by trivial) rfl ?_)
  conv => whnf
  first | refine callF o ⟨.refl _, trivial⟩ (by trivial) rfl ?_ | ((repeat (refine ⟨by kernel_rfl, ?_⟩; (conv => whnf))); refine callF o ⟨.refl _, trivial⟩ (by trivial) rfl ?_)
  conv => whnf
  first | refine callF m ⟨.refl _, .refl _, trivial⟩ (by trivial) rfl ?_ | ((repeat (refine ⟨by kernel_rfl, ?_⟩; (conv => whnf))); refine callF m ⟨.refl _, .refl _, trivial⟩ (by trivial) rfl ?_)
  conv => whnf
  (repeat (refine ⟨by kernel_rfl, ?_⟩; (conv => whnf)))
  refine ⟨(by (try simp only [true_and, and_true, Nat.sub_zero, Nat.zero_add, Int.toNat_natCast]) <;> omega), ?_⟩
  exact .refl _
theorem sSign_ok {x : AV} {a : Rat} {s : Nat} (ha : IsR x a s) (hs : s ≤ 4398046500000) : ACall Try.prog 16 [x] (.f (.int .i64 (rcmp a 0))) := by
  have n := sNorm_ok ha hs
  have sa := ha.size
  have g := rSign_ok (isI_int a.num (rsz_num sa)) (by omega)
  rw [rcmp_num]
  obtain ⟨na, ga, la, ga', la', _, hga, hga', hn, hn', h1⟩ := ha
  generalize mkRat (ival na (nval ga la)) (nval ga' la') = a at *
  refine acall_rule env [0, 1, 2] Try.func16 rfl rfl rfl rfl ?_
  conv => whnf
  first | refine callF n ⟨.refl _, trivial⟩ (by trivial) rfl ?_ | ((repeat (refine ⟨by kernel_rfl, ?_⟩; (conv => whnf))); refine callF n ⟨.refl _, trivial⟩ (by trivial) rfl ?_)
  conv => whnf
  first | refine callF g ⟨.refl _, trivial⟩ (by trivial) rfl ?_ | ((repeat (refine ⟨by kernel_rfl, ?_⟩; (conv => whnf))); refine callF g ⟨.refl _, trivial⟩ (by trivial) rfl ?_)
  conv => whnf
  (repeat (refine ⟨by kernel_rfl, ?_⟩; (conv => whnf)))
  refine ⟨(by (try simp only [true_and, and_true, Nat.sub_zero, Nat.zero_add, Int.toNat_natCast]) <;> omega), ?_⟩
  exact .refl _
theorem sNeg_ok {x : AV} {a : Rat} {s : Nat} (ha : IsR x a s) (hs : s ≤ 4398046500000) : ACall Try.prog 68 [x] (rat (-a)) := by
  have n := sNorm_ok ha hs
  have sa := ha.size
  have g := rNeg_ok (isI_int a.num (rsz_num sa)) (by omega)
  have d := sDen_ok ha hs
  have m := sMake_ok (isI_int (-a.num) (s := s) (by rw [isz_neg]; exact rsz_num sa)) (isI_int (a.den : Nat) (s := s) (by rw [isz_nat]; exact rsz_den sa)) hs hs
  rw [← Rat.neg_divInt, Rat.num_divInt_den] at m
  obtain ⟨na, ga, la, ga', la', _, hga, hga', hn, hn', h1⟩ := ha
  generalize mkRat (ival na (nval ga la)) (nval ga' la') = a at *
  refine acall_rule env [0, 1, 2] Try.func68 rfl rfl rfl rfl ?_
  conv => whnf
  first | refine callF n ⟨.refl _, trivial⟩ (by trivial) rfl ?_ | ((repeat (refine ⟨by kernel_rfl, ?_⟩; (conv => whnf))); refine callF n ⟨.refl _, trivial⟩ (by trivial) rfl ?_)
  conv => whnf
  first | refine callF g ⟨.refl _, trivial⟩ (by trivial) rfl ?_ | ((repeat (refine ⟨by kernel_rfl, ?_⟩; (conv => whnf))); refine callF g ⟨.refl _, trivial⟩ (by trivial) rfl ?_)
  conv => whnf
  first | refine callF d ⟨.refl _, trivial⟩ (by trivial) rfl ?_ | ((repeat (refine ⟨by kernel_rfl, ?_⟩; (conv => whnf))); refine callF d ⟨.refl _, trivial⟩ (by trivial) rfl ?_)
  conv => whnf
  first | refine callF m ⟨.refl _, .refl _, trivial⟩ (by trivial) rfl ?_ | ((repeat (refine ⟨by kernel_rfl, ?_⟩; (conv => whnf))); refine callF m ⟨.refl _, .refl _, trivial⟩ (by trivial) rfl ?_)
  conv => whnf
  (repeat (refine ⟨by kernel_rfl, ?_⟩; (conv => whnf)))
  refine ⟨(by (try simp only [true_and, and_true, Nat.sub_zero, Nat.zero_add, Int.toNat_natCast]) <;> omega), ?_⟩
  exact .refl _
theorem sAdd_ok {x y : AV} {a b : Rat} {s t : Nat} (ha : IsR x a s) (hb : IsR y b t) (hs : s + t ≤ 4398046400000) :
    ACall Try.prog 67 [x, y] (rat (a + b)) := by
  have n1 := sNorm_ok ha (by omega)
  have n2 := sNorm_ok hb (by omega)
  have sa := ha.size
  have sb := hb.size
  have d1 := sDen_ok ha (by omega)
  have d2 := sDen_ok hb (by omega)
  have za := isI_int a.num (rsz_num sa)
  have zb := isI_int b.num (rsz_num sb)
  have ya := isI_int (a.den : Nat) (s := s) (by rw [isz_nat]; exact rsz_den sa)
  have yb := isI_int (b.den : Nat) (s := t) (by rw [isz_nat]; exact rsz_den sb)
  have m1 := rMul_ok za yb (by omega)
  have m2 := rMul_ok zb ya (by omega)
  have m3 := rMul_ok ya yb (by omega)
  have w1 := isz_mul za.size yb.size
  have w2 := isz_mul zb.size ya.size
  have w3 := isz_mul ya.size yb.size
  have a1 := rAdd_ok (isI_int _ w1) (isI_int _ w2) (by omega) (by omega)
  have w4 := isz_add w1 w2
  have mk := sMake_ok (isI_int _ w4) (isI_int _ w3) (by omega) (by omega)
  rw [show Rat.divInt (a.num * (b.den : Nat) + b.num * (a.den : Nat)) ((a.den : Nat) * (b.den : Nat)) = a + b by rw [Rat.add_def', ← Rat.divInt_ofNat, Int.natCast_mul]] at mk
  clear za zb ya yb
  obtain ⟨na, ga, n, ga', n', _, hga, hga', hn, hn', h1⟩ := ha
  obtain ⟨nb, gb, m, gb', m', _, hgb, hgb', hm, hm', h2⟩ := hb
  generalize mkRat (ival na (nval ga n)) (nval ga' n') = a at *
  generalize mkRat (ival nb (nval gb m)) (nval gb' m') = b at *
  refine acall_rule env [0, 1, 2, 3, 4, 5, 6] Try.func67 rfl rfl rfl rfl ?_
  conv => whnf
  first | refine callF n1 ⟨.refl _, trivial⟩ (by trivial) rfl ?_ | ((repeat (refine ⟨by kernel_rfl, ?_⟩; (conv => whnf))); refine callF n1 ⟨.refl _, trivial⟩ (by trivial) rfl ?_)
  conv => whnf
  first | refine callF n2 ⟨.refl _, trivial⟩ (by trivial) rfl ?_ | ((repeat (refine ⟨by kernel_rfl, ?_⟩; (conv => whnf))); refine callF n2 ⟨.refl _, trivial⟩ (by trivial) rfl ?_)
  conv => whnf
  first | refine callF d2 ⟨.refl _, trivial⟩ (by trivial) rfl ?_ | ((repeat (refine ⟨by kernel_rfl, ?_⟩; (conv => whnf))); refine callF d2 ⟨.refl _, trivial⟩ (by trivial) rfl ?_)
  conv => whnf
  first | refine callF m1 ⟨.refl _, .refl _, trivial⟩ (by trivial) rfl ?_ | ((repeat (refine ⟨by kernel_rfl, ?_⟩; (conv => whnf))); refine callF m1 ⟨.refl _, .refl _, trivial⟩ (by trivial) rfl ?_)
  conv => whnf
  first | refine callF d1 ⟨.refl _, trivial⟩ (by trivial) rfl ?_ | ((repeat (refine ⟨by kernel_rfl, ?_⟩; (conv => whnf))); refine callF d1 ⟨.refl _, trivial⟩ (by trivial) rfl ?_)
  conv => whnf
  first | refine callF m2 ⟨.refl _, .refl _, trivial⟩ (by trivial) rfl ?_ | ((repeat (refine ⟨by kernel_rfl, ?_⟩; (conv => whnf))); refine callF m2 ⟨.refl _, .refl _, trivial⟩ (by trivial) rfl ?_)
  conv => whnf
  first | refine callF a1 ⟨.refl _, .refl _, trivial⟩ (by trivial) rfl ?_ | ((repeat (refine ⟨by kernel_rfl, ?_⟩; (conv => whnf))); refine callF a1 ⟨.refl _, .refl _, trivial⟩ (by trivial) rfl ?_)
  conv => whnf
  first | refine callF d1 ⟨.refl _, trivial⟩ (by trivial) rfl ?_ | ((repeat (refine ⟨by kernel_rfl, ?_⟩; (conv => whnf))); refine callF d1 ⟨.refl _, trivial⟩ (by trivial) rfl ?_)
  conv => whnf
  first | refine callF d2 ⟨.refl _, trivial⟩ (by trivial) rfl ?_ | ((repeat (refine ⟨by kernel_rfl, ?_⟩; (conv => whnf))); refine callF d2 ⟨.refl _, trivial⟩ (by trivial) rfl ?_)
  conv => whnf
  first | refine callF m3 ⟨.refl _, .refl _, trivial⟩ (by trivial) rfl ?_ | ((repeat (refine ⟨by kernel_rfl, ?_⟩; (conv => whnf))); refine callF m3 ⟨.refl _, .refl _, trivial⟩ (by trivial) rfl ?_)
  conv => whnf
  first | refine callF mk ⟨.refl _, .refl _, trivial⟩ (by trivial) rfl ?_ | ((repeat (refine ⟨by kernel_rfl, ?_⟩; (conv => whnf))); refine callF mk ⟨.refl _, .refl _, trivial⟩ (by trivial) rfl ?_)
  conv => whnf
  (repeat (refine ⟨by kernel_rfl, ?_⟩; (conv => whnf)))
  refine ⟨(by (try simp only [true_and, and_true, Nat.sub_zero, Nat.zero_add, Int.toNat_natCast]) <;> omega), ?_⟩
  exact .refl _
theorem sSub_ok {x y : AV} {a b : Rat} {s t : Nat} (ha : IsR x a s) (hb : IsR y b t) (hs : s + t ≤ 4398046400000) :
    ACall Try.prog 45 [x, y] (rat (a - b)) := by
  have sb := hb.size
  have n1 := sNeg_ok hb (by omega)
  have a1 := sAdd_ok ha (isR_rat (-b) (s := t) (by rw [rsz_neg]; exact sb)) hs
  rw [← Rat.sub_eq_add_neg] at a1
  obtain ⟨na, ga, n, ga', n', _, hga, hga', hn, hn', h1⟩ := ha
  obtain ⟨nb, gb, m, gb', m', _, hgb, hgb', hm, hm', h2⟩ := hb
  generalize mkRat (ival na (nval ga n)) (nval ga' n') = a at *
  generalize mkRat (ival nb (nval gb m)) (nval gb' m') = b at *
  refine acall_rule env [0, 1, 2, 3, 4] Try.func45 rfl rfl rfl rfl ?_
  conv => whnf
  first | refine callF n1 ⟨.refl _, trivial⟩ (by trivial) rfl ?_ | ((repeat (refine ⟨by kernel_rfl, ?_⟩; (conv => whnf))); refine callF n1 ⟨.refl _, trivial⟩ (by trivial) rfl ?_)
  conv => whnf
  first | refine callF a1 ⟨.refl _, .refl _, trivial⟩ (by trivial) rfl ?_ | ((repeat (refine ⟨by kernel_rfl, ?_⟩; (conv => whnf))); refine callF a1 ⟨.refl _, .refl _, trivial⟩ (by trivial) rfl ?_)
  conv => whnf
  (repeat (refine ⟨by kernel_rfl, ?_⟩; (conv => whnf)))
  refine ⟨(by (try simp only [true_and, and_true, Nat.sub_zero, Nat.zero_add, Int.toNat_natCast]) <;> omega), ?_⟩
  exact .refl _
theorem sCompare_ok {x y : AV} {a b : Rat} {s t : Nat} (ha : IsR x a s) (hb : IsR y b t) (hs : s + t ≤ 4398046300000) :
    ACall Try.prog 18 [x, y] (.f (.int .i64 (rcmp a b))) := by
  have d := sSub_ok ha hb (by omega)
  have g := sSign_ok (isR_rat (a - b) (rsz_sub ha.size hb.size)) (by omega)
  rw [rcmp_sub] at g
  obtain ⟨na, ga, n, ga', n', _, hga, hga', hn, hn', h1⟩ := ha
  obtain ⟨nb, gb, m, gb', m', _, hgb, hgb', hm, hm', h2⟩ := hb
  generalize mkRat (ival na (nval ga n)) (nval ga' n') = a at *
  generalize mkRat (ival nb (nval gb m)) (nval gb' m') = b at *
  generalize rcmp a b = C at *
  refine acall_rule env [0, 1, 2, 3, 4] Try.func18 rfl rfl rfl rfl ?_
  conv => whnf
  first | refine callF d ⟨.refl _, .refl _, trivial⟩ (by trivial) rfl ?_ | ((repeat (refine ⟨by kernel_rfl, ?_⟩; (conv => whnf))); refine callF d ⟨.refl _, .refl _, trivial⟩ (by trivial) rfl ?_)
  conv => whnf
  first | refine callF g ⟨.refl _, trivial⟩ (by trivial) rfl ?_ | ((repeat (refine ⟨by kernel_rfl, ?_⟩; (conv => whnf))); refine callF g ⟨.refl _, trivial⟩ (by trivial) rfl ?_)
  conv => whnf
  (repeat (refine ⟨by kernel_rfl, ?_⟩; (conv => whnf)))
  refine ⟨(by (try simp only [true_and, and_true, Nat.sub_zero, Nat.zero_add, Int.toNat_natCast]) <;> omega), ?_⟩
  exact .refl _
end Go.Abs

/- The laws of rational numbers, as contracts. -/
set_option autoImplicit false
set_option maxHeartbeats 4000000
set_option maxRecDepth 10000
set_option linter.unusedVariables false
set_option linter.unusedSimpArgs false
namespace Go.Abs
open Go Go.Proofs

theorem AVle.nat_lit {at_ : Nat → List FV} {c : Option Nat} (d : Nat) (h0 : 0 < d) (hd : d < 4294967296) (h : at_ 0 = [.int .u32 d]) : AVle (.f (.sl 1 at_ 1 c)) (nat d) := by
  have hs : size d = 1 := by
    have h1 := size_pos (N := d) (by omega)
    have h2 : size d ≤ 1 := size_le (by rw [show pw 1 = 4294967296 from rfl]; exact hd)
    omega
  have : nat d = .f (.sl 1 (fun j => [.int .u32 (digit d j : Nat)]) 1 none) := by unfold nat; rw [hs]
  rw [this]
  refine .f (.sl (fun i hi => ?_) (.inl rfl))
  obtain rfl : i = 0 := by omega
  rw [h, show digit d 0 = d by unfold digit; rw [pw_zero, Nat.div_one, Nat.mod_eq_of_lt hd]]
  exact ⟨.refl _, trivial⟩

theorem awake3_ok : ACall Try.prog 8 [] (.f (.bool true)) := by
  have o1 := sOf_ok 1 6 (by decide) (by decide)
  have f1 := rFromInt_ok 3 (by decide)
  have r1 : rsz (Rat.divInt 1 6) ≤ 1 := by decide +kernel
  have hx : IsR (.agg [.f (.bool false), nat 3, nat 9]) (mkRat 3 9) 1 := by
    have := IsR.mk false (digit 3) (size 3) (digit 9) (size 9) 1 (digit_Dig _ _) (digit_Dig _ _) (by decide) (by decide) (by decide)
    rw [nval_digit_size, nval_digit_size] at this; exact this
  have a1 := qAdd_ok (isR_rat _ r1) hx (by omega)
  have e : Rat.divInt 1 6 + mkRat 3 9 = Rat.divInt 1 2 := by decide +kernel
  rw [e] at a1
  have o2 := sOf_ok 1 2 (by decide) (by decide)
  have q1 := sEqual_same (Rat.divInt 1 2) (Nat.le_trans (show rsz (Rat.divInt 1 2) ≤ 1 by decide +kernel) (by omega))
  have o3 := sOf_ok 5 2 (by decide) (by decide)
  have r3 : rsz (Rat.divInt 5 2) ≤ 1 := by decide +kernel
  have d3 := qRound_ok (isR_rat _ r3) (by omega)
  rw [show rround (Rat.divInt 5 2) = 2 by decide +kernel] at d3
  have i3 := rFromInt_ok 2 (by decide)
  have q3 := rEqual_same 2 (by decide)
  have o4 := sOf_ok (-7) 2 (by decide) (by decide)
  have r4 : rsz (Rat.divInt (-7) 2) ≤ 1 := by decide +kernel
  have d4 := qRound_ok (isR_rat _ r4) (by omega)
  rw [show rround (Rat.divInt (-7) 2) = -4 by decide +kernel] at d4
  have i4 := rFromInt_ok (-4) (by decide)
  have q4 := rEqual_same (-4) (by decide)
  have o5 := sOf_ok (-1) 3 (by decide) (by decide)
  have r5 : rsz (Rat.divInt (-1) 3) ≤ 1 := by decide +kernel
  have d5 := qFloor_ok (isR_rat _ r5) (by omega)
  rw [show (Rat.divInt (-1) 3).floor = -1 by decide +kernel] at d5
  have i5 := rFromInt_ok (-1) (by decide)
  have q5 := rEqual_same (-1) (by decide)
  have h0 : IsR rat0 0 1 := by
    have := IsR.mk false (digit 0) (size 0) (digit 0) (size 0) 1 (digit_Dig _ _) (digit_Dig _ _) (by decide) (by decide) (by decide)
    rw [nval_digit_size, Rat.mkRat_zero] at this; exact this
  have s6 := qSize_ok h0 (by omega)
  rw [show ((bitlen (0 : Rat).num.natAbs + bitlen (0 : Rat).den : Nat) : Int) = 1 by decide +kernel] at s6
  refine acall_rule env [0] Try.func8 rfl rfl rfl rfl ?_
  conv => whnf
  first | refine callF o1 ⟨.refl _, .refl _, trivial⟩ (by trivial) rfl ?_ | ((repeat (refine ⟨by kernel_rfl, ?_⟩; (conv => whnf))); refine callF o1 ⟨.refl _, .refl _, trivial⟩ (by trivial) rfl ?_)
  conv => whnf
  first | refine callF f1 ⟨.refl _, trivial⟩ (by trivial) rfl ?_ | ((repeat (refine ⟨by kernel_rfl, ?_⟩; (conv => whnf))); refine callF f1 ⟨.refl _, trivial⟩ (by trivial) rfl ?_)
  conv => whnf
  refine callF a1 ⟨.refl _, .agg ⟨.refl _, .refl _, .nat_lit 9 (by decide) (by decide) rfl, trivial⟩, trivial⟩ ?_ rfl ?_
  conv => whnf
  · decide
  first | refine callF o2 ⟨.refl _, .refl _, trivial⟩ (by trivial) rfl ?_ | ((repeat (refine ⟨by kernel_rfl, ?_⟩; (conv => whnf))); refine callF o2 ⟨.refl _, .refl _, trivial⟩ (by trivial) rfl ?_)
  conv => whnf
  first | refine callF q1 ⟨.refl _, .refl _, trivial⟩ (by trivial) rfl ?_ | ((repeat (refine ⟨by kernel_rfl, ?_⟩; (conv => whnf))); refine callF q1 ⟨.refl _, .refl _, trivial⟩ (by trivial) rfl ?_)
  conv => whnf
  first | refine callF o3 ⟨.refl _, .refl _, trivial⟩ (by trivial) rfl ?_ | ((repeat (refine ⟨by kernel_rfl, ?_⟩; (conv => whnf))); refine callF o3 ⟨.refl _, .refl _, trivial⟩ (by trivial) rfl ?_)
  conv => whnf
  first | refine callF d3 ⟨.refl _, trivial⟩ (by trivial) rfl ?_ | ((repeat (refine ⟨by kernel_rfl, ?_⟩; (conv => whnf))); refine callF d3 ⟨.refl _, trivial⟩ (by trivial) rfl ?_)
  conv => whnf
  first | refine callF i3 ⟨.refl _, trivial⟩ (by trivial) rfl ?_ | ((repeat (refine ⟨by kernel_rfl, ?_⟩; (conv => whnf))); refine callF i3 ⟨.refl _, trivial⟩ (by trivial) rfl ?_)
  conv => whnf
  first | refine callF q3 ⟨.refl _, .refl _, trivial⟩ (by trivial) rfl ?_ | ((repeat (refine ⟨by kernel_rfl, ?_⟩; (conv => whnf))); refine callF q3 ⟨.refl _, .refl _, trivial⟩ (by trivial) rfl ?_)
  conv => whnf
  first | refine callF o4 ⟨.refl _, .refl _, trivial⟩ (by trivial) rfl ?_ | ((repeat (refine ⟨by kernel_rfl, ?_⟩; (conv => whnf))); refine callF o4 ⟨.refl _, .refl _, trivial⟩ (by trivial) rfl ?_)
  conv => whnf
  first | refine callF d4 ⟨.refl _, trivial⟩ (by trivial) rfl ?_ | ((repeat (refine ⟨by kernel_rfl, ?_⟩; (conv => whnf))); refine callF d4 ⟨.refl _, trivial⟩ (by trivial) rfl ?_)
  conv => whnf
  first | refine callF i4 ⟨.refl _, trivial⟩ (by trivial) rfl ?_ | ((repeat (refine ⟨by kernel_rfl, ?_⟩; (conv => whnf))); refine callF i4 ⟨.refl _, trivial⟩ (by trivial) rfl ?_)
  conv => whnf
  first | refine callF q4 ⟨.refl _, .refl _, trivial⟩ (by trivial) rfl ?_ | ((repeat (refine ⟨by kernel_rfl, ?_⟩; (conv => whnf))); refine callF q4 ⟨.refl _, .refl _, trivial⟩ (by trivial) rfl ?_)
  conv => whnf
  first | refine callF o5 ⟨.refl _, .refl _, trivial⟩ (by trivial) rfl ?_ | ((repeat (refine ⟨by kernel_rfl, ?_⟩; (conv => whnf))); refine callF o5 ⟨.refl _, .refl _, trivial⟩ (by trivial) rfl ?_)
  conv => whnf
  first | refine callF d5 ⟨.refl _, trivial⟩ (by trivial) rfl ?_ | ((repeat (refine ⟨by kernel_rfl, ?_⟩; (conv => whnf))); refine callF d5 ⟨.refl _, trivial⟩ (by trivial) rfl ?_)
  conv => whnf
  first | refine callF i5 ⟨.refl _, trivial⟩ (by trivial) rfl ?_ | ((repeat (refine ⟨by kernel_rfl, ?_⟩; (conv => whnf))); refine callF i5 ⟨.refl _, trivial⟩ (by trivial) rfl ?_)
  conv => whnf
  first | refine callF q5 ⟨.refl _, .refl _, trivial⟩ (by trivial) rfl ?_ | ((repeat (refine ⟨by kernel_rfl, ?_⟩; (conv => whnf))); refine callF q5 ⟨.refl _, .refl _, trivial⟩ (by trivial) rfl ?_)
  conv => whnf
  refine callF s6 ⟨.rat0, trivial⟩ (by trivial) rfl ?_
  conv => whnf
  (repeat (refine ⟨by kernel_rfl, ?_⟩; (conv => whnf)))
  refine ⟨(by (try simp only [true_and, and_true, Nat.sub_zero, Nat.zero_add, Int.toNat_natCast]) <;> omega), ?_⟩
  exact .refl _
end Go.Abs

/- The reference's rational numbers: Min, Max. -/
set_option autoImplicit false
set_option maxHeartbeats 4000000
set_option maxRecDepth 10000
set_option linter.unusedVariables false
set_option linter.unusedSimpArgs false
namespace Go.Abs
open Go Go.Proofs

theorem sMin_ok {x y : AV} {a b : Rat} {s t : Nat} (ha : IsR x a s) (hb : IsR y b t) (hs : s + t ≤ 4398046300000) :
    ACall Try.prog 20 [x, y] (rat (rmin a b)) := by
  have c1 := sCompare_ok ha hb hs
  have n1 := sNorm_ok ha (by omega)
  have n2 := sNorm_ok hb (by omega)
  unfold rmin
  obtain ⟨na, ga, n, ga', n', _, hga, hga', hn, hn', h1⟩ := ha
  obtain ⟨nb, gb, m, gb', m', _, hgb, hgb', hm, hm', h2⟩ := hb
  generalize mkRat (ival na (nval ga n)) (nval ga' n') = a at *
  generalize mkRat (ival nb (nval gb m)) (nval gb' m') = b at *
  generalize rcmp a b = C at *
  by_cases h : C ≤ 0
  · rw [if_pos h]
    refine acall_rule env [0, 1, 2, 3, 4, 8] Try.func20 rfl rfl rfl rfl ?_
    conv => whnf
    first | refine callF c1 ⟨.refl _, .refl _, trivial⟩ (by trivial) rfl ?_ | ((repeat (refine ⟨by kernel_rfl, ?_⟩; (conv => whnf))); refine callF c1 ⟨.refl _, .refl _, trivial⟩ (by trivial) rfl ?_)
    conv => whnf
    refine splT (by simp only [decide_eq_true_eq, decide_eq_false_iff_not, Bool.not_eq_true', Bool.not_eq_false', gt_iff_lt, ge_iff_le] <;> omega) ?_
    conv => whnf
    first | refine callF n1 ⟨.refl _, trivial⟩ (by trivial) rfl ?_ | ((repeat (refine ⟨by kernel_rfl, ?_⟩; (conv => whnf))); refine callF n1 ⟨.refl _, trivial⟩ (by trivial) rfl ?_)
    conv => whnf
    (repeat (refine ⟨by kernel_rfl, ?_⟩; (conv => whnf)))
    refine ⟨(by (try simp only [true_and, and_true, Nat.sub_zero, Nat.zero_add, Int.toNat_natCast]) <;> omega), ?_⟩
    exact .refl _
  · rw [if_neg h]
    refine acall_rule env [0, 1, 2, 3, 4, 8] Try.func20 rfl rfl rfl rfl ?_
    conv => whnf
    first | refine callF c1 ⟨.refl _, .refl _, trivial⟩ (by trivial) rfl ?_ | ((repeat (refine ⟨by kernel_rfl, ?_⟩; (conv => whnf))); refine callF c1 ⟨.refl _, .refl _, trivial⟩ (by trivial) rfl ?_)
    conv => whnf
    refine splF (by simp only [decide_eq_true_eq, decide_eq_false_iff_not, Bool.not_eq_true', Bool.not_eq_false', gt_iff_lt, ge_iff_le] <;> omega) ?_
    conv => whnf
    first | refine callF n2 ⟨.refl _, trivial⟩ (by trivial) rfl ?_ | ((repeat (refine ⟨by kernel_rfl, ?_⟩; (conv => whnf))); refine callF n2 ⟨.refl _, trivial⟩ (by trivial) rfl ?_)
    conv => whnf
    (repeat (refine ⟨by kernel_rfl, ?_⟩; (conv => whnf)))
    refine ⟨(by (try simp only [true_and, and_true, Nat.sub_zero, Nat.zero_add, Int.toNat_natCast]) <;> omega), ?_⟩
    exact .refl _
theorem sMax_ok {x y : AV} {a b : Rat} {s t : Nat} (ha : IsR x a s) (hb : IsR y b t) (hs : s + t ≤ 4398046300000) :
    ACall Try.prog 22 [x, y] (rat (rmax a b)) := by
  have c1 := sCompare_ok ha hb hs
  have n1 := sNorm_ok ha (by omega)
  have n2 := sNorm_ok hb (by omega)
  unfold rmax
  obtain ⟨na, ga, n, ga', n', _, hga, hga', hn, hn', h1⟩ := ha
  obtain ⟨nb, gb, m, gb', m', _, hgb, hgb', hm, hm', h2⟩ := hb
  generalize mkRat (ival na (nval ga n)) (nval ga' n') = a at *
  generalize mkRat (ival nb (nval gb m)) (nval gb' m') = b at *
  generalize rcmp a b = C at *
  by_cases h : 0 ≤ C
  · rw [if_pos h]
    refine acall_rule env [0, 1, 2, 3, 4, 8] Try.func22 rfl rfl rfl rfl ?_
    conv => whnf
    first | refine callF c1 ⟨.refl _, .refl _, trivial⟩ (by trivial) rfl ?_ | ((repeat (refine ⟨by kernel_rfl, ?_⟩; (conv => whnf))); refine callF c1 ⟨.refl _, .refl _, trivial⟩ (by trivial) rfl ?_)
    conv => whnf
    refine splT (by simp only [decide_eq_true_eq, decide_eq_false_iff_not, Bool.not_eq_true', Bool.not_eq_false', gt_iff_lt, ge_iff_le] <;> omega) ?_
    conv => whnf
    first | refine callF n1 ⟨.refl _, trivial⟩ (by trivial) rfl ?_ | ((repeat (refine ⟨by kernel_rfl, ?_⟩; (conv => whnf))); refine callF n1 ⟨.refl _, trivial⟩ (by trivial) rfl ?_)
    conv => whnf
    (repeat (refine ⟨by kernel_rfl, ?_⟩; (conv => whnf)))
    refine ⟨(by (try simp only [true_and, and_true, Nat.sub_zero, Nat.zero_add, Int.toNat_natCast]) <;> omega), ?_⟩
    exact .refl _
  · rw [if_neg h]
    refine acall_rule env [0, 1, 2, 3, 4, 8] Try.func22 rfl rfl rfl rfl ?_
    conv => whnf
    first | refine callF c1 ⟨.refl _, .refl _, trivial⟩ (by trivial) rfl ?_ | ((repeat (refine ⟨by kernel_rfl, ?_⟩; (conv => whnf))); refine callF c1 ⟨.refl _, .refl _, trivial⟩ (by trivial) rfl ?_)
    conv => whnf
    refine splF (by simp only [decide_eq_true_eq, decide_eq_false_iff_not, Bool.not_eq_true', Bool.not_eq_false', gt_iff_lt, ge_iff_le] <;> omega) ?_
    conv => whnf
    first | refine callF n2 ⟨.refl _, trivial⟩ (by trivial) rfl ?_ | ((repeat (refine ⟨by kernel_rfl, ?_⟩; (conv => whnf))); refine callF n2 ⟨.refl _, trivial⟩ (by trivial) rfl ?_)
    conv => whnf
    (repeat (refine ⟨by kernel_rfl, ?_⟩; (conv => whnf)))
    refine ⟨(by (try simp only [true_and, and_true, Nat.sub_zero, Nat.zero_add, Int.toNat_natCast]) <;> omega), ?_⟩
    exact .refl _
theorem rmax_ge (a b : Rat) : a ≤ rmax a b ∧ b ≤ rmax a b ∧ (rmax a b = a ∨ rmax a b = b) := by
  unfold rmax
  by_cases h : b ≤ a
  · have h1 := rcmp_le.2 h
    rw [rcmp_neg] at h1
    rw [if_pos (by omega)]
    exact ⟨Rat.le_refl, h, .inl rfl⟩
  · have h2 := Rat.not_le.1 h
    rw [rcmp_lt h2, if_neg (by omega)]
    exact ⟨Rat.le_of_lt h2, Rat.le_refl, .inr rfl⟩
theorem rmin_le (a b : Rat) : rmin a b ≤ a ∧ rmin a b ≤ b ∧ (rmin a b = a ∨ rmin a b = b) := by
  unfold rmin
  by_cases h : a ≤ b
  · rw [if_pos (rcmp_le.2 h)]
    exact ⟨Rat.le_refl, h, .inl rfl⟩
  · rw [if_neg (fun h' => h (rcmp_le.1 h'))]
    exact ⟨Rat.le_of_lt (Rat.not_le.1 h), Rat.le_refl, .inr rfl⟩
end Go.Abs

/- The law of rational values. -/
set_option autoImplicit false
set_option maxHeartbeats 4000000
set_option maxRecDepth 10000
set_option linter.unusedVariables false
set_option linter.unusedSimpArgs false
namespace Go.Abs
open Go Go.Proofs

def frac2 (n d : Int) : AV := .agg [.f (.int .i64 n), .f (.int .i64 d)]
theorem qFromFrac_ok (n d : Int) (hn : -9223372036854775808 ≤ n ∧ n ≤ 9223372036854775807) (hd : -9223372036854775808 ≤ d ∧ d ≤ 9223372036854775807) :
    ACall Try.prog 13 [frac2 n d] (rat (Rat.divInt n d)) := by
  have f1 := iFromInt_ok n hn
  have f2 := iFromInt_ok d hd
  have w1 := New_ok (isI_int n (s := 2) (isz_small (by omega))) (isI_int d (s := 2) (isz_small (by omega))) (by omega) (by omega)
  have z := qFromInt_ok 0 (by decide)
  unfold newRes at w1
  by_cases h : d = 0
  · rw [if_pos h] at w1
    subst h
    rw [Rat.divInt_zero]
    refine acall_rule env [0, 1, 2, 3, 4, 16] Try.func13 rfl rfl rfl rfl ?_
    conv => whnf
    first | refine callF f1 ⟨.refl _, trivial⟩ (by trivial) rfl ?_ | ((repeat (refine ⟨by kernel_rfl, ?_⟩; (conv => whnf))); refine callF f1 ⟨.refl _, trivial⟩ (by trivial) rfl ?_)
    conv => whnf
    first | refine callF f2 ⟨.refl _, trivial⟩ (by trivial) rfl ?_ | ((repeat (refine ⟨by kernel_rfl, ?_⟩; (conv => whnf))); refine callF f2 ⟨.refl _, trivial⟩ (by trivial) rfl ?_)
    conv => whnf
    first | refine callF w1 ⟨.refl _, .refl _, trivial⟩ (by trivial) rfl ?_ | ((repeat (refine ⟨by kernel_rfl, ?_⟩; (conv => whnf))); refine callF w1 ⟨.refl _, .refl _, trivial⟩ (by trivial) rfl ?_)
    conv => whnf
    first | refine callF z ⟨.refl _, trivial⟩ (by trivial) rfl ?_ | ((repeat (refine ⟨by kernel_rfl, ?_⟩; (conv => whnf))); refine callF z ⟨.refl _, trivial⟩ (by trivial) rfl ?_)
    conv => whnf
    (repeat (refine ⟨by kernel_rfl, ?_⟩; (conv => whnf)))
    refine ⟨(by (try simp only [true_and, and_true, Nat.sub_zero, Nat.zero_add, Int.toNat_natCast]) <;> omega), ?_⟩
    exact .refl _
  · rw [if_neg h] at w1
    refine acall_rule env [0, 1, 2, 3, 4, 16] Try.func13 rfl rfl rfl rfl ?_
    conv => whnf
    first | refine callF f1 ⟨.refl _, trivial⟩ (by trivial) rfl ?_ | ((repeat (refine ⟨by kernel_rfl, ?_⟩; (conv => whnf))); refine callF f1 ⟨.refl _, trivial⟩ (by trivial) rfl ?_)
    conv => whnf
    first | refine callF f2 ⟨.refl _, trivial⟩ (by trivial) rfl ?_ | ((repeat (refine ⟨by kernel_rfl, ?_⟩; (conv => whnf))); refine callF f2 ⟨.refl _, trivial⟩ (by trivial) rfl ?_)
    conv => whnf
    first | refine callF w1 ⟨.refl _, .refl _, trivial⟩ (by trivial) rfl ?_ | ((repeat (refine ⟨by kernel_rfl, ?_⟩; (conv => whnf))); refine callF w1 ⟨.refl _, .refl _, trivial⟩ (by trivial) rfl ?_)
    conv => whnf
    (repeat (refine ⟨by kernel_rfl, ?_⟩; (conv => whnf)))
    refine ⟨(by (try simp only [true_and, and_true, Nat.sub_zero, Nat.zero_add, Int.toNat_natCast]) <;> omega), ?_⟩
    exact .refl _
theorem sFromFrac_ok (n d : Int) (hn : -9223372036854775808 ≤ n ∧ n ≤ 9223372036854775807) (hd : -9223372036854775808 ≤ d ∧ d ≤ 9223372036854775807) :
    ACall Try.prog 14 [frac2 n d] (rat (Rat.divInt n d)) := by
  have f1 := sOf_ok n d hn hd
  refine acall_rule env [0, 1, 2] Try.func14 rfl rfl rfl rfl ?_
  conv => whnf
  first | refine callF f1 ⟨.refl _, .refl _, trivial⟩ (by trivial) rfl ?_ | ((repeat (refine ⟨by kernel_rfl, ?_⟩; (conv => whnf))); refine callF f1 ⟨.refl _, .refl _, trivial⟩ (by trivial) rfl ?_)
  conv => whnf
  (repeat (refine ⟨by kernel_rfl, ?_⟩; (conv => whnf)))
  refine ⟨(by (try simp only [true_and, and_true, Nat.sub_zero, Nat.zero_add, Int.toNat_natCast]) <;> omega), ?_⟩
  exact .refl _

theorem RationalValues_ok {x y zn zd : AV} {a b : Rat} {N D : Int} {s : Nat} (fn fd v : Int) (ha : IsR x a s) (hb : IsR y b s) (hN : IsI zn N s) (hD : IsI zd D s) (hs : s ≤ 1048576)
    (hf : -9223372036854775808 ≤ fn ∧ fn ≤ 9223372036854775807) (hg : -9223372036854775808 ≤ fd ∧ fd ≤ 9223372036854775807) (hv : -9223372036854775808 ≤ v ∧ v ≤ 9223372036854775807) :
    ACall Try.prog 3 [x, y, frac2 fn fd, zn, zd, .f (.int .i64 v)] (.f (.bool true)) := by
  have za := ha.size
  have zb := hb.size
  have zN := hN.size
  have zD := hD.size
  have h1 : 1 ≤ s := Nat.le_trans (one_le_rsz a) za
  have w1 := New_ok hN hD (by omega) (by omega)
  have d1 := rSign_ok hD (by omega)
  have mk := sMake_ok hN hD (by omega) (by omega)
  have e0 := sEqual_same (Rat.divInt N D) (Nat.le_trans (rsz_divInt zN zD h1) (by omega))
  have n1 := qNorm_ok ha (by omega)
  have n2 := sNorm_ok ha (by omega)
  have e1 := sEqual_same a (by omega)
  have v1 := qFromInt_ok v hv
  have v2 := sFromInt_ok v hv
  have e2 := sEqual_same (v : Rat) (Nat.le_trans (rsz_int v (s := 2) (isz_small (by omega)) (by omega)) (by omega))
  have t1 := qFromFrac_ok fn fd hf hg
  have t2 := sFromFrac_ok fn fd hf hg
  have e3 := sEqual_same (Rat.divInt fn fd) (Nat.le_trans (rsz_divInt (s := 2) (isz_small (by omega)) (isz_small (by omega)) (by omega)) (by omega))
  have g1 := qSign_ok ha (by omega)
  have g2 := sSign_ok ha (by omega)
  have c1 := qCompare_ok ha hb (by omega)
  have c2 := sCompare_ok ha hb (by omega)
  have m1 := qMin_ok ha hb (by omega)
  have m2 := sMin_ok ha hb (by omega)
  have m3 := qMax_ok ha hb (by omega)
  have m4 := sMax_ok ha hb (by omega)
  have e4 := sEqual_same (rmin a b) (by rcases (rmin_le a b).2.2 with e | e <;> rw [e] <;> omega)
  have e5 := sEqual_same (rmax a b) (by rcases (rmax_ge a b).2.2 with e | e <;> rw [e] <;> omega)
  have hsg : sgn D = 0 ↔ D = 0 := sgn_iff
  obtain ⟨na, ga, la, ga', la', _, hga, hga', hna, hna', _⟩ := ha
  obtain ⟨nb, gb, lb, gb', lb', _, hgb, hgb', hnb, hnb', _⟩ := hb
  obtain ⟨nx, gx, lx, _, hgx, hlx⟩ := hN
  obtain ⟨ny, gy, ly, _, hgy, hly⟩ := hD
  generalize mkRat (ival na (nval ga la)) (nval ga' la') = a at *
  generalize mkRat (ival nb (nval gb lb)) (nval gb' lb') = b at *
  generalize ival nx (nval gx lx) = N at *
  generalize ival ny (nval gy ly) = D at *
  generalize rmin a b = r1 at *
  generalize rmax a b = r2 at *
  generalize rcmp a b = r3 at *
  generalize rcmp a 0 = r4 at *
  unfold newRes at w1
  by_cases h : D = 0
  · rw [if_pos h] at w1
    have hs0 := hsg.2 h
    generalize sgn D = S at *
    refine acall_rule env [0, 1, 2, 3, 4, 5, 6, 7, 8, 9, 10, 12, 13, 14, 53] Try.func3 rfl rfl rfl rfl ?_
    conv => whnf
    first | refine callF w1 ⟨.refl _, .refl _, trivial⟩ (by trivial) rfl ?_ | ((repeat (refine ⟨by kernel_rfl, ?_⟩; (conv => whnf))); refine callF w1 ⟨.refl _, .refl _, trivial⟩ (by trivial) rfl ?_)
    conv => whnf
    first | refine callF d1 ⟨.refl _, trivial⟩ (by trivial) rfl ?_ | ((repeat (refine ⟨by kernel_rfl, ?_⟩; (conv => whnf))); refine callF d1 ⟨.refl _, trivial⟩ (by trivial) rfl ?_)
    conv => whnf
    refine splF (by simp [hs0]) ?_
    conv => whnf
    refine ⟨by kernel_rfl, ?_⟩
    conv => whnf
    first | refine callF awake3_ok trivial (by trivial) rfl ?_ | ((repeat (refine ⟨by kernel_rfl, ?_⟩; (conv => whnf))); refine callF awake3_ok trivial (by trivial) rfl ?_)
    conv => whnf
    first | refine callF n1 ⟨.refl _, trivial⟩ (by trivial) rfl ?_ | ((repeat (refine ⟨by kernel_rfl, ?_⟩; (conv => whnf))); refine callF n1 ⟨.refl _, trivial⟩ (by trivial) rfl ?_)
    conv => whnf
    first | refine callF n2 ⟨.refl _, trivial⟩ (by trivial) rfl ?_ | ((repeat (refine ⟨by kernel_rfl, ?_⟩; (conv => whnf))); refine callF n2 ⟨.refl _, trivial⟩ (by trivial) rfl ?_)
    conv => whnf
    first | refine callF e1 ⟨.refl _, .refl _, trivial⟩ (by trivial) rfl ?_ | ((repeat (refine ⟨by kernel_rfl, ?_⟩; (conv => whnf))); refine callF e1 ⟨.refl _, .refl _, trivial⟩ (by trivial) rfl ?_)
    conv => whnf
    first | refine callF v1 ⟨.refl _, trivial⟩ (by trivial) rfl ?_ | ((repeat (refine ⟨by kernel_rfl, ?_⟩; (conv => whnf))); refine callF v1 ⟨.refl _, trivial⟩ (by trivial) rfl ?_)
    conv => whnf
    first | refine callF v2 ⟨.refl _, trivial⟩ (by trivial) rfl ?_ | ((repeat (refine ⟨by kernel_rfl, ?_⟩; (conv => whnf))); refine callF v2 ⟨.refl _, trivial⟩ (by trivial) rfl ?_)
    conv => whnf
    first | refine callF e2 ⟨.refl _, .refl _, trivial⟩ (by trivial) rfl ?_ | ((repeat (refine ⟨by kernel_rfl, ?_⟩; (conv => whnf))); refine callF e2 ⟨.refl _, .refl _, trivial⟩ (by trivial) rfl ?_)
    conv => whnf
    first | refine callF t1 ⟨.refl _, trivial⟩ (by trivial) rfl ?_ | ((repeat (refine ⟨by kernel_rfl, ?_⟩; (conv => whnf))); refine callF t1 ⟨.refl _, trivial⟩ (by trivial) rfl ?_)
    conv => whnf
    first | refine callF t2 ⟨.refl _, trivial⟩ (by trivial) rfl ?_ | ((repeat (refine ⟨by kernel_rfl, ?_⟩; (conv => whnf))); refine callF t2 ⟨.refl _, trivial⟩ (by trivial) rfl ?_)
    conv => whnf
    first | refine callF e3 ⟨.refl _, .refl _, trivial⟩ (by trivial) rfl ?_ | ((repeat (refine ⟨by kernel_rfl, ?_⟩; (conv => whnf))); refine callF e3 ⟨.refl _, .refl _, trivial⟩ (by trivial) rfl ?_)
    conv => whnf
    first | refine callF g1 ⟨.refl _, trivial⟩ (by trivial) rfl ?_ | ((repeat (refine ⟨by kernel_rfl, ?_⟩; (conv => whnf))); refine callF g1 ⟨.refl _, trivial⟩ (by trivial) rfl ?_)
    conv => whnf
    first | refine callF g2 ⟨.refl _, trivial⟩ (by trivial) rfl ?_ | ((repeat (refine ⟨by kernel_rfl, ?_⟩; (conv => whnf))); refine callF g2 ⟨.refl _, trivial⟩ (by trivial) rfl ?_)
    conv => whnf
    refine splT (decide_eq_true rfl) ?_
    conv => whnf
    first | refine callF c1 ⟨.refl _, .refl _, trivial⟩ (by trivial) rfl ?_ | ((repeat (refine ⟨by kernel_rfl, ?_⟩; (conv => whnf))); refine callF c1 ⟨.refl _, .refl _, trivial⟩ (by trivial) rfl ?_)
    conv => whnf
    first | refine callF c2 ⟨.refl _, .refl _, trivial⟩ (by trivial) rfl ?_ | ((repeat (refine ⟨by kernel_rfl, ?_⟩; (conv => whnf))); refine callF c2 ⟨.refl _, .refl _, trivial⟩ (by trivial) rfl ?_)
    conv => whnf
    refine splT (decide_eq_true rfl) ?_
    conv => whnf
    first | refine callF m1 ⟨.refl _, .refl _, trivial⟩ (by trivial) rfl ?_ | ((repeat (refine ⟨by kernel_rfl, ?_⟩; (conv => whnf))); refine callF m1 ⟨.refl _, .refl _, trivial⟩ (by trivial) rfl ?_)
    conv => whnf
    first | refine callF m2 ⟨.refl _, .refl _, trivial⟩ (by trivial) rfl ?_ | ((repeat (refine ⟨by kernel_rfl, ?_⟩; (conv => whnf))); refine callF m2 ⟨.refl _, .refl _, trivial⟩ (by trivial) rfl ?_)
    conv => whnf
    first | refine callF e4 ⟨.refl _, .refl _, trivial⟩ (by trivial) rfl ?_ | ((repeat (refine ⟨by kernel_rfl, ?_⟩; (conv => whnf))); refine callF e4 ⟨.refl _, .refl _, trivial⟩ (by trivial) rfl ?_)
    conv => whnf
    first | refine callF m3 ⟨.refl _, .refl _, trivial⟩ (by trivial) rfl ?_ | ((repeat (refine ⟨by kernel_rfl, ?_⟩; (conv => whnf))); refine callF m3 ⟨.refl _, .refl _, trivial⟩ (by trivial) rfl ?_)
    conv => whnf
    first | refine callF m4 ⟨.refl _, .refl _, trivial⟩ (by trivial) rfl ?_ | ((repeat (refine ⟨by kernel_rfl, ?_⟩; (conv => whnf))); refine callF m4 ⟨.refl _, .refl _, trivial⟩ (by trivial) rfl ?_)
    conv => whnf
    first | refine callF e5 ⟨.refl _, .refl _, trivial⟩ (by trivial) rfl ?_ | ((repeat (refine ⟨by kernel_rfl, ?_⟩; (conv => whnf))); refine callF e5 ⟨.refl _, .refl _, trivial⟩ (by trivial) rfl ?_)
    conv => whnf
    refine ⟨by kernel_rfl, ?_⟩
    conv => whnf
    (repeat (refine ⟨by kernel_rfl, ?_⟩; (conv => whnf)))
    refine ⟨(by (try simp only [true_and, and_true, Nat.sub_zero, Nat.zero_add, Int.toNat_natCast]) <;> omega), ?_⟩
    exact .refl _
  · rw [if_neg h] at w1
    have hs0 : ¬ sgn D = 0 := fun h' => h (hsg.1 h')
    generalize Rat.divInt N D = q at *
    generalize sgn D = S at *
    refine acall_rule env [0, 1, 2, 3, 4, 5, 6, 7, 8, 9, 10, 12, 13, 14, 53] Try.func3 rfl rfl rfl rfl ?_
    conv => whnf
    first | refine callF w1 ⟨.refl _, .refl _, trivial⟩ (by trivial) rfl ?_ | ((repeat (refine ⟨by kernel_rfl, ?_⟩; (conv => whnf))); refine callF w1 ⟨.refl _, .refl _, trivial⟩ (by trivial) rfl ?_)
    conv => whnf
    first | refine callF d1 ⟨.refl _, trivial⟩ (by trivial) rfl ?_ | ((repeat (refine ⟨by kernel_rfl, ?_⟩; (conv => whnf))); refine callF d1 ⟨.refl _, trivial⟩ (by trivial) rfl ?_)
    conv => whnf
    refine splF (by simp [hs0]) ?_
    conv => whnf
    first | refine callF mk ⟨.refl _, .refl _, trivial⟩ (by trivial) rfl ?_ | ((repeat (refine ⟨by kernel_rfl, ?_⟩; (conv => whnf))); refine callF mk ⟨.refl _, .refl _, trivial⟩ (by trivial) rfl ?_)
    conv => whnf
    first | refine callF e0 ⟨.refl _, .refl _, trivial⟩ (by trivial) rfl ?_ | ((repeat (refine ⟨by kernel_rfl, ?_⟩; (conv => whnf))); refine callF e0 ⟨.refl _, .refl _, trivial⟩ (by trivial) rfl ?_)
    conv => whnf
    refine ⟨by kernel_rfl, ?_⟩
    conv => whnf
    first | refine callF awake3_ok trivial (by trivial) rfl ?_ | ((repeat (refine ⟨by kernel_rfl, ?_⟩; (conv => whnf))); refine callF awake3_ok trivial (by trivial) rfl ?_)
    conv => whnf
    first | refine callF n1 ⟨.refl _, trivial⟩ (by trivial) rfl ?_ | ((repeat (refine ⟨by kernel_rfl, ?_⟩; (conv => whnf))); refine callF n1 ⟨.refl _, trivial⟩ (by trivial) rfl ?_)
    conv => whnf
    first | refine callF n2 ⟨.refl _, trivial⟩ (by trivial) rfl ?_ | ((repeat (refine ⟨by kernel_rfl, ?_⟩; (conv => whnf))); refine callF n2 ⟨.refl _, trivial⟩ (by trivial) rfl ?_)
    conv => whnf
    first | refine callF e1 ⟨.refl _, .refl _, trivial⟩ (by trivial) rfl ?_ | ((repeat (refine ⟨by kernel_rfl, ?_⟩; (conv => whnf))); refine callF e1 ⟨.refl _, .refl _, trivial⟩ (by trivial) rfl ?_)
    conv => whnf
    first | refine callF v1 ⟨.refl _, trivial⟩ (by trivial) rfl ?_ | ((repeat (refine ⟨by kernel_rfl, ?_⟩; (conv => whnf))); refine callF v1 ⟨.refl _, trivial⟩ (by trivial) rfl ?_)
    conv => whnf
    first | refine callF v2 ⟨.refl _, trivial⟩ (by trivial) rfl ?_ | ((repeat (refine ⟨by kernel_rfl, ?_⟩; (conv => whnf))); refine callF v2 ⟨.refl _, trivial⟩ (by trivial) rfl ?_)
    conv => whnf
    first | refine callF e2 ⟨.refl _, .refl _, trivial⟩ (by trivial) rfl ?_ | ((repeat (refine ⟨by kernel_rfl, ?_⟩; (conv => whnf))); refine callF e2 ⟨.refl _, .refl _, trivial⟩ (by trivial) rfl ?_)
    conv => whnf
    first | refine callF t1 ⟨.refl _, trivial⟩ (by trivial) rfl ?_ | ((repeat (refine ⟨by kernel_rfl, ?_⟩; (conv => whnf))); refine callF t1 ⟨.refl _, trivial⟩ (by trivial) rfl ?_)
    conv => whnf
    first | refine callF t2 ⟨.refl _, trivial⟩ (by trivial) rfl ?_ | ((repeat (refine ⟨by kernel_rfl, ?_⟩; (conv => whnf))); refine callF t2 ⟨.refl _, trivial⟩ (by trivial) rfl ?_)
    conv => whnf
    first | refine callF e3 ⟨.refl _, .refl _, trivial⟩ (by trivial) rfl ?_ | ((repeat (refine ⟨by kernel_rfl, ?_⟩; (conv => whnf))); refine callF e3 ⟨.refl _, .refl _, trivial⟩ (by trivial) rfl ?_)
    conv => whnf
    first | refine callF g1 ⟨.refl _, trivial⟩ (by trivial) rfl ?_ | ((repeat (refine ⟨by kernel_rfl, ?_⟩; (conv => whnf))); refine callF g1 ⟨.refl _, trivial⟩ (by trivial) rfl ?_)
    conv => whnf
    first | refine callF g2 ⟨.refl _, trivial⟩ (by trivial) rfl ?_ | ((repeat (refine ⟨by kernel_rfl, ?_⟩; (conv => whnf))); refine callF g2 ⟨.refl _, trivial⟩ (by trivial) rfl ?_)
    conv => whnf
    refine splT (decide_eq_true rfl) ?_
    conv => whnf
    first | refine callF c1 ⟨.refl _, .refl _, trivial⟩ (by trivial) rfl ?_ | ((repeat (refine ⟨by kernel_rfl, ?_⟩; (conv => whnf))); refine callF c1 ⟨.refl _, .refl _, trivial⟩ (by trivial) rfl ?_)
    conv => whnf
    first | refine callF c2 ⟨.refl _, .refl _, trivial⟩ (by trivial) rfl ?_ | ((repeat (refine ⟨by kernel_rfl, ?_⟩; (conv => whnf))); refine callF c2 ⟨.refl _, .refl _, trivial⟩ (by trivial) rfl ?_)
    conv => whnf
    refine splT (decide_eq_true rfl) ?_
    conv => whnf
    first | refine callF m1 ⟨.refl _, .refl _, trivial⟩ (by trivial) rfl ?_ | ((repeat (refine ⟨by kernel_rfl, ?_⟩; (conv => whnf))); refine callF m1 ⟨.refl _, .refl _, trivial⟩ (by trivial) rfl ?_)
    conv => whnf
    first | refine callF m2 ⟨.refl _, .refl _, trivial⟩ (by trivial) rfl ?_ | ((repeat (refine ⟨by kernel_rfl, ?_⟩; (conv => whnf))); refine callF m2 ⟨.refl _, .refl _, trivial⟩ (by trivial) rfl ?_)
    conv => whnf
    first | refine callF e4 ⟨.refl _, .refl _, trivial⟩ (by trivial) rfl ?_ | ((repeat (refine ⟨by kernel_rfl, ?_⟩; (conv => whnf))); refine callF e4 ⟨.refl _, .refl _, trivial⟩ (by trivial) rfl ?_)
    conv => whnf
    first | refine callF m3 ⟨.refl _, .refl _, trivial⟩ (by trivial) rfl ?_ | ((repeat (refine ⟨by kernel_rfl, ?_⟩; (conv => whnf))); refine callF m3 ⟨.refl _, .refl _, trivial⟩ (by trivial) rfl ?_)
    conv => whnf
    first | refine callF m4 ⟨.refl _, .refl _, trivial⟩ (by trivial) rfl ?_ | ((repeat (refine ⟨by kernel_rfl, ?_⟩; (conv => whnf))); refine callF m4 ⟨.refl _, .refl _, trivial⟩ (by trivial) rfl ?_)
    conv => whnf
    first | refine callF e5 ⟨.refl _, .refl _, trivial⟩ (by trivial) rfl ?_ | ((repeat (refine ⟨by kernel_rfl, ?_⟩; (conv => whnf))); refine callF e5 ⟨.refl _, .refl _, trivial⟩ (by trivial) rfl ?_)
    conv => whnf
    refine ⟨by kernel_rfl, ?_⟩
    conv => whnf
    (repeat (refine ⟨by kernel_rfl, ?_⟩; (conv => whnf)))
    refine ⟨(by (try simp only [true_and, and_true, Nat.sub_zero, Nat.zero_add, Int.toNat_natCast]) <;> omega), ?_⟩
    exact .refl _
end Go.Abs

/- What comes in: lists of limbs, integers. -/
set_option autoImplicit false
set_option maxHeartbeats 4000000
set_option linter.unusedVariables false
set_option linter.unusedSimpArgs false
namespace Go.Abs
open Go Go.Proofs

theorem dec_limbs {c : List FV} {n : Nat} (h : Fits tab 22 c n) : ∃ (g : Nat → Nat) (m : Nat), Dig g m ∧ m + 1 ≤ n ∧ All2 FVle c [.sl 1 (fun j => [.int .u32 (g j : Nat)]) m none] := by
  obtain ⟨te, at_, len, bs, he, rfl, hel, hn⟩ := h.inv rfl
  have hte : te = ⟨.int .u32, 1, 4, [.int .u32 0]⟩ := by cases he; rfl
  have hx : ∀ i, i < len → ∃ x : Nat, x < 4294967296 ∧ at_ i = [.int .u32 (x : Int)] := by
    intro i hi
    have := (hel i hi).inv he
    subst hte
    obtain ⟨z, h1, h2, h3⟩ := this
    refine ⟨z.toNat, ?_, ?_⟩
    · have : z ≤ 4294967295 := h3
      have : 0 ≤ z := h2
      omega
    · have : 0 ≤ z := h2
      rw [h1, Int.toNat_of_nonneg this]
  obtain ⟨g, hg⟩ := pickF hx
  refine ⟨g, len, fun i hi => (hg i hi).1, ?_, ?_, trivial⟩
  · have := len_le_sumTo (bs := bs) (n := len) fun i hi => (hel i hi).pos
    omega
  · subst hte
    refine .sl (fun i hi => ?_) (.inl rfl)
    rw [(hg i hi).2]
    exact ⟨.refl _, trivial⟩

theorem dec_Int {c : List FV} {n : Nat} (h : Fits tab 24 c n) : ∃ (neg : Bool) (g : Nat → Nat) (m : Nat), Dig g m ∧ m + 1 ≤ n ∧ All2 FVle c [.bool neg, .sl 1 (fun j => [.int .u32 (g j : Nat)]) m none] := by
  obtain ⟨m0, hf, hn⟩ := h.inv rfl
  obtain ⟨a, b, c1, c2, h1, h2, rfl, rfl⟩ := hf.inv
  obtain ⟨a2, b2, c3, c4, h3, h4, rfl, rfl⟩ := h2.inv
  obtain ⟨rfl, rfl⟩ := h4.inv0
  obtain ⟨neg, rfl⟩ := h1.inv rfl
  obtain ⟨g, m, hg, hm, hle⟩ := dec_limbs h3
  refine ⟨neg, g, m, hg, by omega, ?_⟩
  rw [List.append_nil]
  exact ⟨.refl _, hle⟩

theorem all2_fle_fL : ∀ {c c' : List FV}, All2 FVle c c' → All2 AVle (fL c) (fL c')
  | [], [], _ => by simp [fL, All2]
  | x :: r, y :: r', ⟨a, b⟩ => by simp only [fL]; exact ⟨.f a, all2_fle_fL b⟩
  | [], _ :: _, h => h.elim
  | _ :: _, [], h => h.elim
theorem AVle.of_fL {c c' : List FV} (h : All2 FVle c c') : AVle (.agg (fL c)) (.agg (fL c')) := .agg (all2_fle_fL h)
theorem par_Int {c : List FV} {n : Nat} (h : Fits tab 24 c n) : ∃ (x : AV) (z : Int), IsI x z n ∧ AVle (.agg (fL c)) x := by
  obtain ⟨neg, g, m, hg, hm, hle⟩ := dec_Int h
  exact ⟨_, _, .mk neg g m n hg (by omega), .of_fL hle⟩
theorem par_limbs {c : FV} {n : Nat} (h : Fits tab 22 [c] n) : ∃ (g : Nat → Nat) (m : Nat), Dig g m ∧ m ≤ n ∧ AVle (.f c) (raw g m) := by
  obtain ⟨g, m, hg, hm, hle⟩ := dec_limbs h
  exact ⟨g, m, hg, by omega, .f hle.1⟩
theorem par_int {c : FV} {n : Nat} (h : Fits tab 3 [c] n) : ∃ z : Int, (-9223372036854775808 ≤ z ∧ z ≤ 9223372036854775807) ∧ AVle (.f c) (.f (.int .i64 z)) := by
  obtain ⟨z, hc, h1, h2⟩ := h.inv rfl
  cases hc
  exact ⟨z, ⟨h1, h2⟩, .refl _⟩
end Go.Abs

/- What comes in: rational numbers. -/
set_option autoImplicit false
set_option maxHeartbeats 4000000
set_option linter.unusedVariables false
set_option linter.unusedSimpArgs false
namespace Go.Abs
open Go Go.Proofs

theorem all2_app {α β : Type} {R : α → β → Prop} : ∀ {a : List α} {b : List β} {c : List α} {d : List β}, All2 R a b → All2 R c d → All2 R (a ++ c) (b ++ d)
  | [], [], _, _, _, h => h
  | _ :: _, _ :: _, _, _, ⟨h1, h2⟩, h => ⟨h1, all2_app h2 h⟩
  | [], _ :: _, _, _, h, _ => h.elim
  | _ :: _, [], _, _, h, _ => h.elim
theorem dec_Rat {c : List FV} {n : Nat} (h : Fits tab 26 c n) : ∃ (neg : Bool) (g : Nat → Nat) (m : Nat) (g' : Nat → Nat) (m' : Nat), Dig g m ∧ Dig g' m' ∧ m + m' + 3 ≤ n ∧ All2 FVle c [.bool neg, .sl 1 (fun j => [.int .u32 (g j : Nat)]) m none, .sl 1 (fun j => [.int .u32 (g' j : Nat)]) m' none] := by
  obtain ⟨m0, hf, hn⟩ := h.inv rfl
  obtain ⟨a, b, c1, c2, h1, h2, rfl, rfl⟩ := hf.inv
  obtain ⟨a2, b2, c3, c4, h3, h4, rfl, rfl⟩ := h2.inv
  obtain ⟨rfl, rfl⟩ := h4.inv0
  obtain ⟨neg, g, m, hg, hm, hle⟩ := dec_Int h1
  obtain ⟨g', m', hg', hm', hle'⟩ := dec_limbs h3
  refine ⟨neg, g, m, g', m', hg, hg', by omega, ?_⟩
  rw [List.append_nil]
  exact all2_app hle hle'
theorem par_Rat {c : List FV} {n : Nat} (h : Fits tab 26 c n) : ∃ (x : AV) (q : Rat), IsR x q n ∧ AVle (.agg (fL c)) x := by
  obtain ⟨neg, g, m, g', m', hg, hg', hm, hle⟩ := dec_Rat h
  exact ⟨_, _, .mk neg g m g' m' n hg hg' (by omega) (by omega) (by omega), .of_fL hle⟩
theorem par_uint32 {c : FV} {n : Nat} (h : Fits tab 47 [c] n) : ∃ z : Int, (0 ≤ z ∧ z ≤ 4294967295) ∧ AVle (.f c) (.f (.int .u32 z)) := by
  obtain ⟨z, hc, h1, h2⟩ := h.inv rfl
  cases hc
  exact ⟨z, ⟨h1, h2⟩, .refl _⟩
theorem par_uint8 {c : FV} {n : Nat} (h : Fits tab 5 [c] n) : ∃ z : Int, (0 ≤ z ∧ z ≤ 255) ∧ AVle (.f c) (.f (.int .u8 z)) := by
  obtain ⟨z, hc, h1, h2⟩ := h.inv rfl
  cases hc
  exact ⟨z, ⟨h1, h2⟩, .refl _⟩
theorem par_bool {c : FV} {n : Nat} (h : Fits tab 4 [c] n) : ∃ b : Bool, AVle (.f c) (.f (.bool b)) := by
  obtain ⟨b, hc⟩ := h.inv rfl
  cases hc
  exact ⟨b, .refl _⟩
end Go.Abs

/- What comes in: small fractions. -/
set_option autoImplicit false
set_option maxHeartbeats 4000000
set_option linter.unusedVariables false
set_option linter.unusedSimpArgs false
namespace Go.Abs
open Go Go.Proofs
theorem par_Frac {c : List FV} {n : Nat} (h : Fits tab 28 c n) : ∃ (a b : Int), (-9223372036854775808 ≤ a ∧ a ≤ 9223372036854775807) ∧ (-9223372036854775808 ≤ b ∧ b ≤ 9223372036854775807) ∧ AVle (.agg (fL c)) (frac2 a b) := by
  obtain ⟨m0, hf, hn⟩ := h.inv rfl
  obtain ⟨a, b, c1, c2, h1, h2, rfl, rfl⟩ := hf.inv
  obtain ⟨a2, b2, c3, c4, h3, h4, rfl, rfl⟩ := h2.inv
  obtain ⟨rfl, rfl⟩ := h4.inv0
  obtain ⟨z1, rfl, p1, p2⟩ := h1.inv rfl
  obtain ⟨z2, rfl, p3, p4⟩ := h3.inv rfl
  exact ⟨z1, z2, ⟨p1, p2⟩, ⟨p3, p4⟩, .refl _⟩
end Go.Abs
