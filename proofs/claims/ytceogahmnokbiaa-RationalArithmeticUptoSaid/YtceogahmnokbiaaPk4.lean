/- Contracts of the functions that the law calls, and the logic in which they are proved: part 4. -/
import Derived.Test.YtceogahmnokbiaaPk3
/- Rational numbers: arithmetic. -/
set_option autoImplicit false
set_option maxHeartbeats 4000000
set_option maxRecDepth 10000
set_option linter.unusedVariables false
set_option linter.unusedSimpArgs false
namespace Go.Abs
open Go Go.Proofs

theorem reduced_nat {x : AV} {z : Int} {s : Nat} (hx : IsI x z s) (D : Nat) (hs : s ≤ 4398046510000) (hD : size D ≤ 4398046510000) (h0 : D ≠ 0) :
    ACall Try.prog 53 [x, nat D] (rat (mkRat z D)) := by
  have := reduced_ok hx (digit D) (size D) (digit_Dig _ _) hs hD (by rw [nval_digit_size]; exact h0)
  rw [nval_digit_size] at this; exact this


theorem qCompare_ok {x y : AV} {a b : Rat} {s t : Nat} (ha : IsR x a s) (hb : IsR y b t) (hs : s + t ≤ 4398046500000) :
    ACall Try.prog 22 [x, y] (.f (.int .i64 (rcmp a b))) := by
  obtain ⟨p, P, hp, mp, pa, ip, dp, lp, zp, ep⟩ := parts_ok ha (by omega)
  obtain ⟨r, R, hr, mr, pb, ir, dr, lr, zr, er⟩ := parts_ok hb (by omega)
  have jp := isI_pos dp lp
  have jr := isI_pos dr lr
  have sP := ip.size
  have sR := ir.size
  have sQ := Nat.le_trans (size_nval dp) lp
  have sS := Nat.le_trans (size_nval dr) lr
  have m1 := iMul_ok ip jr (by omega)
  have m2 := iMul_ok ir jp (by omega)
  have k1 := iCompare_ok (isI_int (P * (nval hr mr : Nat)) (isz_mul sP (by rw [isz_nat]; exact sS))) (isI_int (R * (nval hp mp : Nat)) (isz_mul sR (by rw [isz_nat]; exact sQ))) (by omega) (by omega)
  rw [rcmp_cross P R _ _ zp zr] at k1
  rw [ep, er]
  clear ep er
  obtain ⟨na, ga, n, ga', n', _, hga, hga', hn, hn', h1⟩ := ha
  obtain ⟨nb, gb, m, gb', m', _, hgb, hgb', hm, hm', h2⟩ := hb
  obtain ⟨np, gp, kp, _, hgp, hkp⟩ := ip
  obtain ⟨nr, gr, kr, _, hgr, hkr⟩ := ir
  generalize ival np (nval gp kp) = P at *
  generalize ival nr (nval gr kr) = R at *
  refine acall_rule env [0, 1, 2, 3, 4, 5, 6, 7, 8] Try.func22 rfl rfl rfl rfl ?_
  conv => whnf
  first | refine callF pa ⟨.refl _, trivial⟩ (by trivial) rfl ?_ | ((repeat (refine ⟨by kernel_rfl, ?_⟩; (conv => whnf))); refine callF pa ⟨.refl _, trivial⟩ (by trivial) rfl ?_)
  conv => whnf
  first | refine callF pb ⟨.refl _, trivial⟩ (by trivial) rfl ?_ | ((repeat (refine ⟨by kernel_rfl, ?_⟩; (conv => whnf))); refine callF pb ⟨.refl _, trivial⟩ (by trivial) rfl ?_)
  conv => whnf
  first | refine callF m1 ⟨.refl _, .refl _, trivial⟩ (by trivial) rfl ?_ | ((repeat (refine ⟨by kernel_rfl, ?_⟩; (conv => whnf))); refine callF m1 ⟨.refl _, .refl _, trivial⟩ (by trivial) rfl ?_)
  conv => whnf
  first | refine callF m2 ⟨.refl _, .refl _, trivial⟩ (by trivial) rfl ?_ | ((repeat (refine ⟨by kernel_rfl, ?_⟩; (conv => whnf))); refine callF m2 ⟨.refl _, .refl _, trivial⟩ (by trivial) rfl ?_)
  conv => whnf
  first | refine callF k1 ⟨.refl _, .refl _, trivial⟩ (by trivial) rfl ?_ | ((repeat (refine ⟨by kernel_rfl, ?_⟩; (conv => whnf))); refine callF k1 ⟨.refl _, .refl _, trivial⟩ (by trivial) rfl ?_)
  conv => whnf
  (repeat (refine ⟨by kernel_rfl, ?_⟩; (conv => whnf)))
  refine ⟨(by (try simp only [true_and, and_true, Nat.sub_zero, Nat.zero_add, Int.toNat_natCast]) <;> omega), ?_⟩
  exact .refl _

theorem qNeg_ok {x : AV} {a : Rat} {s : Nat} (ha : IsR x a s) (hs : s ≤ 4398046500000) : ACall Try.prog 35 [x] (rat (-a)) := by
  have n1 := qNorm_ok ha (by omega)
  have sa := ha.size
  have n2 := iNeg_ok (isI_int a.num (rsz_num sa)) (by omega)
  obtain ⟨na, ga, n, ga', n', _, hga, hga', hn, hn', h1⟩ := ha
  generalize mkRat (ival na (nval ga n)) (nval ga' n') = a at *
  refine acall_rule env [0, 1, 2, 3] Try.func35 rfl rfl rfl rfl ?_
  conv => whnf
  first | refine callF n1 ⟨.refl _, trivial⟩ (by trivial) rfl ?_ | ((repeat (refine ⟨by kernel_rfl, ?_⟩; (conv => whnf))); refine callF n1 ⟨.refl _, trivial⟩ (by trivial) rfl ?_)
  conv => whnf
  first | refine callF n2 ⟨.refl _, trivial⟩ (by trivial) rfl ?_ | ((repeat (refine ⟨by kernel_rfl, ?_⟩; (conv => whnf))); refine callF n2 ⟨.refl _, trivial⟩ (by trivial) rfl ?_)
  conv => whnf
  (repeat (refine ⟨by kernel_rfl, ?_⟩; (conv => whnf)))
  refine ⟨(by (try simp only [true_and, and_true, Nat.sub_zero, Nat.zero_add, Int.toNat_natCast]) <;> omega), ?_⟩
  exact .refl _

theorem qAdd_ok {x y : AV} {a b : Rat} {s t : Nat} (ha : IsR x a s) (hb : IsR y b t) (hs : s + t ≤ 4398046500000) :
    ACall Try.prog 21 [x, y] (rat (a + b)) := by
  obtain ⟨p, P, hp, mp, pa, ip, dp, lp, zp, ep⟩ := parts_ok ha (by omega)
  obtain ⟨r, R, hr, mr, pb, ir, dr, lr, zr, er⟩ := parts_ok hb (by omega)
  have jp := isI_pos dp lp
  have jr := isI_pos dr lr
  have sP := ip.size
  have sR := ir.size
  have sQ := Nat.le_trans (size_nval dp) lp
  have sS := Nat.le_trans (size_nval dr) lr
  have c1 := Compare_ok hp hr mp mr dp dr (by omega) (by omega)
  have a1 := iAdd_ok ip ir (by omega) (by omega)
  have m1 := iMul_ok ip jr (by omega)
  have m2 := iMul_ok ir jp (by omega)
  have zm1 := isz_mul sP (show isz (nval hr mr : Nat) ≤ t by rw [isz_nat]; exact sS)
  have zm2 := isz_mul sR (show isz (nval hp mp : Nat) ≤ s by rw [isz_nat]; exact sQ)
  have a2 := iAdd_ok (isI_int _ zm1) (isI_int _ zm2) (by omega) (by omega)
  have za1 := isz_add sP sR
  have za2 := isz_add zm1 zm2
  have m3 := Mul_ok hp hr mp mr dp dr (by omega)
  have zm3 := size_mul2 sQ sS
  have r1 := reduced_ok (isI_int _ za1) hp mp dp (by omega) (by omega) zp
  have r2 := reduced_nat (isI_int _ za2) _ (by omega) (Nat.le_trans zm3 (by omega)) (Nat.mul_ne_zero zp zr)
  have e := Rat.mkRat_add_mkRat P R zp zr
  rw [ep, er]
  clear ep er
  obtain ⟨na, ga, n, ga', n', _, hga, hga', hn, hn', h1⟩ := ha
  obtain ⟨nb, gb, m, gb', m', _, hgb, hgb', hm, hm', h2⟩ := hb
  obtain ⟨np, gp, kp, _, hgp, hkp⟩ := ip
  obtain ⟨nr, gr, kr, _, hgr, hkr⟩ := ir
  generalize ival np (nval gp kp) = P at *
  generalize ival nr (nval gr kr) = R at *
  rw [e]
  by_cases h : nval hp mp = nval hr mr
  · have e2 : mkRat (P * (nval hr mr : Nat) + R * (nval hp mp : Nat)) (nval hp mp * nval hr mr) = mkRat (P + R) (nval hp mp) := by
      rw [h, ← Int.add_mul, Rat.mkRat_mul_right (by rw [← h]; exact zp)]
    rw [e2]
    rw [show cmp (nval hp mp) (nval hr mr) = 0 by rw [h]; simp [cmp]] at c1
    refine acall_rule env [0, 1, 2, 3, 4, 5, 6, 7, 8, 24] Try.func21 rfl rfl rfl rfl ?_
    conv => whnf
    first | refine callF pa ⟨.refl _, trivial⟩ (by trivial) rfl ?_ | ((repeat (refine ⟨by kernel_rfl, ?_⟩; (conv => whnf))); refine callF pa ⟨.refl _, trivial⟩ (by trivial) rfl ?_)
    conv => whnf
    first | refine callF pb ⟨.refl _, trivial⟩ (by trivial) rfl ?_ | ((repeat (refine ⟨by kernel_rfl, ?_⟩; (conv => whnf))); refine callF pb ⟨.refl _, trivial⟩ (by trivial) rfl ?_)
    conv => whnf
    first | refine callF c1 ⟨.refl _, .refl _, trivial⟩ (by trivial) rfl ?_ | ((repeat (refine ⟨by kernel_rfl, ?_⟩; (conv => whnf))); refine callF c1 ⟨.refl _, .refl _, trivial⟩ (by trivial) rfl ?_)
    conv => whnf
    first | refine callF a1 ⟨.refl _, .refl _, trivial⟩ (by trivial) rfl ?_ | ((repeat (refine ⟨by kernel_rfl, ?_⟩; (conv => whnf))); refine callF a1 ⟨.refl _, .refl _, trivial⟩ (by trivial) rfl ?_)
    conv => whnf
    first | refine callF r1 ⟨.refl _, .refl _, trivial⟩ (by trivial) rfl ?_ | ((repeat (refine ⟨by kernel_rfl, ?_⟩; (conv => whnf))); refine callF r1 ⟨.refl _, .refl _, trivial⟩ (by trivial) rfl ?_)
    conv => whnf
    (repeat (refine ⟨by kernel_rfl, ?_⟩; (conv => whnf)))
    refine ⟨(by (try simp only [true_and, and_true, Nat.sub_zero, Nat.zero_add, Int.toNat_natCast]) <;> omega), ?_⟩
    exact .refl _
  · have hc : ¬ cmp (nval hp mp) (nval hr mr) = 0 := by
      unfold cmp; repeat' split
      all_goals omega
    obtain ⟨C, hC⟩ : ∃ C : Int, cmp (nval hp mp) (nval hr mr) = C := ⟨_, rfl⟩
    rw [hC] at c1 hc
    refine acall_rule env [0, 1, 2, 3, 4, 5, 6, 7, 8, 24] Try.func21 rfl rfl rfl rfl ?_
    conv => whnf
    first | refine callF pa ⟨.refl _, trivial⟩ (by trivial) rfl ?_ | ((repeat (refine ⟨by kernel_rfl, ?_⟩; (conv => whnf))); refine callF pa ⟨.refl _, trivial⟩ (by trivial) rfl ?_)
    conv => whnf
    first | refine callF pb ⟨.refl _, trivial⟩ (by trivial) rfl ?_ | ((repeat (refine ⟨by kernel_rfl, ?_⟩; (conv => whnf))); refine callF pb ⟨.refl _, trivial⟩ (by trivial) rfl ?_)
    conv => whnf
    first | refine callF c1 ⟨.refl _, .refl _, trivial⟩ (by trivial) rfl ?_ | ((repeat (refine ⟨by kernel_rfl, ?_⟩; (conv => whnf))); refine callF c1 ⟨.refl _, .refl _, trivial⟩ (by trivial) rfl ?_)
    conv => whnf
    refine splF (by simp only [decide_eq_true_eq, decide_eq_false_iff_not, Bool.not_eq_true', Bool.not_eq_false', gt_iff_lt, ge_iff_le] <;> omega) ?_
    conv => whnf
    first | refine callF m1 ⟨.refl _, .refl _, trivial⟩ (by trivial) rfl ?_ | ((repeat (refine ⟨by kernel_rfl, ?_⟩; (conv => whnf))); refine callF m1 ⟨.refl _, .refl _, trivial⟩ (by trivial) rfl ?_)
    conv => whnf
    first | refine callF m2 ⟨.refl _, .refl _, trivial⟩ (by trivial) rfl ?_ | ((repeat (refine ⟨by kernel_rfl, ?_⟩; (conv => whnf))); refine callF m2 ⟨.refl _, .refl _, trivial⟩ (by trivial) rfl ?_)
    conv => whnf
    first | refine callF a2 ⟨.refl _, .refl _, trivial⟩ (by trivial) rfl ?_ | ((repeat (refine ⟨by kernel_rfl, ?_⟩; (conv => whnf))); refine callF a2 ⟨.refl _, .refl _, trivial⟩ (by trivial) rfl ?_)
    conv => whnf
    first | refine callF m3 ⟨.refl _, .refl _, trivial⟩ (by trivial) rfl ?_ | ((repeat (refine ⟨by kernel_rfl, ?_⟩; (conv => whnf))); refine callF m3 ⟨.refl _, .refl _, trivial⟩ (by trivial) rfl ?_)
    conv => whnf
    first | refine callF r2 ⟨.refl _, .refl _, trivial⟩ (by trivial) rfl ?_ | ((repeat (refine ⟨by kernel_rfl, ?_⟩; (conv => whnf))); refine callF r2 ⟨.refl _, .refl _, trivial⟩ (by trivial) rfl ?_)
    conv => whnf
    (repeat (refine ⟨by kernel_rfl, ?_⟩; (conv => whnf)))
    refine ⟨(by (try simp only [true_and, and_true, Nat.sub_zero, Nat.zero_add, Int.toNat_natCast]) <;> omega), ?_⟩
    exact .refl _

theorem qSub_ok {x y : AV} {a b : Rat} {s t : Nat} (ha : IsR x a s) (hb : IsR y b t) (hs : s + t ≤ 4398046500000) :
    ACall Try.prog 26 [x, y] (rat (a - b)) := by
  obtain ⟨nb, gb, m, gb', m', _, hgb, hgb', hm, hm', h2⟩ := hb
  have a1 := qAdd_ok ha (IsR.mk (!nb) gb m gb' m' t hgb hgb' hm hm' h2) hs
  rw [show ival (!nb) (nval gb m) = -ival nb (nval gb m) by cases nb <;> simp [ival], ← Rat.neg_mkRat, ← Rat.sub_eq_add_neg] at a1
  generalize mkRat (ival nb (nval gb m)) (nval gb' m') = b at *
  obtain ⟨na, ga, n, ga', n', _, hga, hga', hn, hn', h1⟩ := ha
  generalize mkRat (ival na (nval ga n)) (nval ga' n') = a at *
  refine acall_rule env [0, 1, 2, 3, 4] Try.func26 rfl rfl rfl rfl ?_
  conv => whnf
  first | refine callF a1 ⟨.refl _, .refl _, trivial⟩ (by trivial) rfl ?_ | ((repeat (refine ⟨by kernel_rfl, ?_⟩; (conv => whnf))); refine callF a1 ⟨.refl _, .refl _, trivial⟩ (by trivial) rfl ?_)
  conv => whnf
  (repeat (refine ⟨by kernel_rfl, ?_⟩; (conv => whnf)))
  refine ⟨(by (try simp only [true_and, and_true, Nat.sub_zero, Nat.zero_add, Int.toNat_natCast]) <;> omega), ?_⟩
  exact .refl _

theorem qMul_ok {x y : AV} {a b : Rat} {s t : Nat} (ha : IsR x a s) (hb : IsR y b t) (hs : s + t ≤ 4398046500000) :
    ACall Try.prog 18 [x, y] (rat (a * b)) := by
  obtain ⟨p, P, hp, mp, pa, ip, dp, lp, zp, ep⟩ := parts_ok ha (by omega)
  obtain ⟨r, R, hr, mr, pb, ir, dr, lr, zr, er⟩ := parts_ok hb (by omega)
  have jp := isI_pos dp lp
  have jr := isI_pos dr lr
  have sP := ip.size
  have sR := ir.size
  have sQ := Nat.le_trans (size_nval dp) lp
  have sS := Nat.le_trans (size_nval dr) lr
  have m1 := iMul_ok ip ir (by omega)
  have zm1 := isz_mul sP sR
  have m3 := Mul_ok hp hr mp mr dp dr (by omega)
  have zm3 := size_mul2 sQ sS
  have r2 := reduced_nat (isI_int _ zm1) _ (by omega) (Nat.le_trans zm3 (by omega)) (Nat.mul_ne_zero zp zr)
  rw [← Rat.mkRat_mul_mkRat] at r2
  rw [ep, er]
  clear ep er
  obtain ⟨na, ga, n, ga', n', _, hga, hga', hn, hn', h1⟩ := ha
  obtain ⟨nb, gb, m, gb', m', _, hgb, hgb', hm, hm', h2⟩ := hb
  obtain ⟨np, gp, kp, _, hgp, hkp⟩ := ip
  obtain ⟨nr, gr, kr, _, hgr, hkr⟩ := ir
  generalize ival np (nval gp kp) = P at *
  generalize ival nr (nval gr kr) = R at *
  refine acall_rule env [0, 1, 2, 3, 4, 5, 6, 7, 8] Try.func18 rfl rfl rfl rfl ?_
  conv => whnf
  first | refine callF pa ⟨.refl _, trivial⟩ (by trivial) rfl ?_ | ((repeat (refine ⟨by kernel_rfl, ?_⟩; (conv => whnf))); refine callF pa ⟨.refl _, trivial⟩ (by trivial) rfl ?_)
  conv => whnf
  first | refine callF pb ⟨.refl _, trivial⟩ (by trivial) rfl ?_ | ((repeat (refine ⟨by kernel_rfl, ?_⟩; (conv => whnf))); refine callF pb ⟨.refl _, trivial⟩ (by trivial) rfl ?_)
  conv => whnf
  first | refine callF m1 ⟨.refl _, .refl _, trivial⟩ (by trivial) rfl ?_ | ((repeat (refine ⟨by kernel_rfl, ?_⟩; (conv => whnf))); refine callF m1 ⟨.refl _, .refl _, trivial⟩ (by trivial) rfl ?_)
  conv => whnf
  first | refine callF m3 ⟨.refl _, .refl _, trivial⟩ (by trivial) rfl ?_ | ((repeat (refine ⟨by kernel_rfl, ?_⟩; (conv => whnf))); refine callF m3 ⟨.refl _, .refl _, trivial⟩ (by trivial) rfl ?_)
  conv => whnf
  first | refine callF r2 ⟨.refl _, .refl _, trivial⟩ (by trivial) rfl ?_ | ((repeat (refine ⟨by kernel_rfl, ?_⟩; (conv => whnf))); refine callF r2 ⟨.refl _, .refl _, trivial⟩ (by trivial) rfl ?_)
  conv => whnf
  (repeat (refine ⟨by kernel_rfl, ?_⟩; (conv => whnf)))
  refine ⟨(by (try simp only [true_and, and_true, Nat.sub_zero, Nat.zero_add, Int.toNat_natCast]) <;> omega), ?_⟩
  exact .refl _

def invRes (a : Rat) : AV := if a = 0 then .tup [rat0, .f (.bool false)] else .tup [rat a⁻¹, .f (.bool true)]
def qdivRes (a b : Rat) : AV := if b = 0 then .tup [rat0, .f (.bool false)] else .tup [rat (a / b), .f (.bool true)]

theorem qInv_ok {x : AV} {a : Rat} {s : Nat} (ha : IsR x a s) (hs : s ≤ 4398046500000) : ACall Try.prog 34 [x] (invRes a) := by
  obtain ⟨p, P, hp, mp, pa, ip, dp, lp, zp, ep⟩ := parts_ok ha (by omega)
  have n1 := New_ok (isI_pos dp lp) ip (by omega) (by omega)
  have e : newRes (nval hp mp : Nat) P = invRes a := by
    unfold newRes invRes
    rw [ep]
    simp only [Rat.mkRat_eq_zero zp]
    rw [← Rat.divInt_ofNat, Rat.inv_divInt]
  rw [e] at n1
  have hA : invRes a = .tup [rat0, .f (.bool false)] ∨ invRes a = .tup [rat a⁻¹, .f (.bool true)] := by
    unfold invRes; split
    · exact .inl rfl
    · exact .inr rfl
  clear e ep
  obtain ⟨na, ga, n, ga', n', _, hga, hga', hn, hn', h1⟩ := ha
  obtain ⟨np, gp, kp, _, hgp, hkp⟩ := ip
  generalize mkRat (ival na (nval ga n)) (nval ga' n') = a at *
  rcases hA with hA | hA <;> rw [hA] at n1 ⊢
  · refine acall_rule env [0, 1, 2, 3, 4, 5] Try.func34 rfl rfl rfl rfl ?_
    conv => whnf
    first | refine callF pa ⟨.refl _, trivial⟩ (by trivial) rfl ?_ | ((repeat (refine ⟨by kernel_rfl, ?_⟩; (conv => whnf))); refine callF pa ⟨.refl _, trivial⟩ (by trivial) rfl ?_)
    conv => whnf
    first | refine callF n1 ⟨.refl _, .refl _, trivial⟩ (by trivial) rfl ?_ | ((repeat (refine ⟨by kernel_rfl, ?_⟩; (conv => whnf))); refine callF n1 ⟨.refl _, .refl _, trivial⟩ (by trivial) rfl ?_)
    conv => whnf
    (repeat (refine ⟨by kernel_rfl, ?_⟩; (conv => whnf)))
    refine ⟨(by (try simp only [true_and, and_true, Nat.sub_zero, Nat.zero_add, Int.toNat_natCast]) <;> omega), ?_⟩
    exact .refl _
  · refine acall_rule env [0, 1, 2, 3, 4, 5] Try.func34 rfl rfl rfl rfl ?_
    conv => whnf
    first | refine callF pa ⟨.refl _, trivial⟩ (by trivial) rfl ?_ | ((repeat (refine ⟨by kernel_rfl, ?_⟩; (conv => whnf))); refine callF pa ⟨.refl _, trivial⟩ (by trivial) rfl ?_)
    conv => whnf
    first | refine callF n1 ⟨.refl _, .refl _, trivial⟩ (by trivial) rfl ?_ | ((repeat (refine ⟨by kernel_rfl, ?_⟩; (conv => whnf))); refine callF n1 ⟨.refl _, .refl _, trivial⟩ (by trivial) rfl ?_)
    conv => whnf
    (repeat (refine ⟨by kernel_rfl, ?_⟩; (conv => whnf)))
    refine ⟨(by (try simp only [true_and, and_true, Nat.sub_zero, Nat.zero_add, Int.toNat_natCast]) <;> omega), ?_⟩
    exact .refl _

theorem qDiv_ok {x y : AV} {a b : Rat} {s t : Nat} (ha : IsR x a s) (hb : IsR y b t) (hs : s + t ≤ 4398046500000) :
    ACall Try.prog 38 [x, y] (qdivRes a b) := by
  obtain ⟨p, P, hp, mp, pa, ip, dp, lp, zp, ep⟩ := parts_ok ha (by omega)
  obtain ⟨r, R, hr, mr, pb, ir, dr, lr, zr, er⟩ := parts_ok hb (by omega)
  have jp := isI_pos dp lp
  have jr := isI_pos dr lr
  have sP := ip.size
  have sR := ir.size
  have sQ := Nat.le_trans (size_nval dp) lp
  have sS := Nat.le_trans (size_nval dr) lr
  have m1 := iMul_ok ip jr (by omega)
  have m2 := iMul_ok jp ir (by omega)
  have zm1 := isz_mul sP (show isz (nval hr mr : Nat) ≤ t by rw [isz_nat]; exact sS)
  have zm2 := isz_mul (show isz (nval hp mp : Nat) ≤ s by rw [isz_nat]; exact sQ) sR
  have n1 := New_ok (isI_int _ zm1) (isI_int _ zm2) (by omega) (by omega)
  have e : newRes (P * (nval hr mr : Nat)) ((nval hp mp : Nat) * R) = qdivRes a b := by
    unfold newRes qdivRes
    rw [ep, er]
    have h : ((nval hp mp : Nat) : Int) * R = 0 ↔ R = 0 := by
      rw [Int.mul_eq_zero]; constructor
      · rintro (h | h)
        · omega
        · exact h
      · exact .inr
    simp only [Rat.mkRat_eq_zero zr, h]
    rw [Rat.div_def, ← Rat.divInt_ofNat, ← Rat.divInt_ofNat, Rat.inv_divInt, Rat.divInt_mul_divInt]
  rw [e] at n1
  have hA : qdivRes a b = .tup [rat0, .f (.bool false)] ∨ qdivRes a b = .tup [rat (a / b), .f (.bool true)] := by
    unfold qdivRes; split
    · exact .inl rfl
    · exact .inr rfl
  clear e
  generalize hQ : qdivRes a b = Q at *
  clear hQ
  obtain ⟨na, ga, n, ga', n', _, hga, hga', hn, hn', h1⟩ := ha
  obtain ⟨nb, gb, m, gb', m', _, hgb, hgb', hm, hm', h2⟩ := hb
  obtain ⟨np, gp, kp, _, hgp, hkp⟩ := ip
  obtain ⟨nr, gr, kr, _, hgr, hkr⟩ := ir
  generalize ival np (nval gp kp) = P at *
  generalize ival nr (nval gr kr) = R at *
  clear ep er
  rcases hA with hA | hA <;> rw [hA] at n1 ⊢
  · refine acall_rule env [0, 1, 2, 3, 4, 5, 6, 7, 8, 9] Try.func38 rfl rfl rfl rfl ?_
    conv => whnf
    first | refine callF pa ⟨.refl _, trivial⟩ (by trivial) rfl ?_ | ((repeat (refine ⟨by kernel_rfl, ?_⟩; (conv => whnf))); refine callF pa ⟨.refl _, trivial⟩ (by trivial) rfl ?_)
    conv => whnf
    first | refine callF pb ⟨.refl _, trivial⟩ (by trivial) rfl ?_ | ((repeat (refine ⟨by kernel_rfl, ?_⟩; (conv => whnf))); refine callF pb ⟨.refl _, trivial⟩ (by trivial) rfl ?_)
    conv => whnf
    first | refine callF m1 ⟨.refl _, .refl _, trivial⟩ (by trivial) rfl ?_ | ((repeat (refine ⟨by kernel_rfl, ?_⟩; (conv => whnf))); refine callF m1 ⟨.refl _, .refl _, trivial⟩ (by trivial) rfl ?_)
    conv => whnf
    first | refine callF m2 ⟨.refl _, .refl _, trivial⟩ (by trivial) rfl ?_ | ((repeat (refine ⟨by kernel_rfl, ?_⟩; (conv => whnf))); refine callF m2 ⟨.refl _, .refl _, trivial⟩ (by trivial) rfl ?_)
    conv => whnf
    first | refine callF n1 ⟨.refl _, .refl _, trivial⟩ (by trivial) rfl ?_ | ((repeat (refine ⟨by kernel_rfl, ?_⟩; (conv => whnf))); refine callF n1 ⟨.refl _, .refl _, trivial⟩ (by trivial) rfl ?_)
    conv => whnf
    (repeat (refine ⟨by kernel_rfl, ?_⟩; (conv => whnf)))
    refine ⟨(by (try simp only [true_and, and_true, Nat.sub_zero, Nat.zero_add, Int.toNat_natCast]) <;> omega), ?_⟩
    exact .refl _
  · refine acall_rule env [0, 1, 2, 3, 4, 5, 6, 7, 8, 9] Try.func38 rfl rfl rfl rfl ?_
    conv => whnf
    first | refine callF pa ⟨.refl _, trivial⟩ (by trivial) rfl ?_ | ((repeat (refine ⟨by kernel_rfl, ?_⟩; (conv => whnf))); refine callF pa ⟨.refl _, trivial⟩ (by trivial) rfl ?_)
    conv => whnf
    first | refine callF pb ⟨.refl _, trivial⟩ (by trivial) rfl ?_ | ((repeat (refine ⟨by kernel_rfl, ?_⟩; (conv => whnf))); refine callF pb ⟨.refl _, trivial⟩ (by trivial) rfl ?_)
    conv => whnf
    first | refine callF m1 ⟨.refl _, .refl _, trivial⟩ (by trivial) rfl ?_ | ((repeat (refine ⟨by kernel_rfl, ?_⟩; (conv => whnf))); refine callF m1 ⟨.refl _, .refl _, trivial⟩ (by trivial) rfl ?_)
    conv => whnf
    first | refine callF m2 ⟨.refl _, .refl _, trivial⟩ (by trivial) rfl ?_ | ((repeat (refine ⟨by kernel_rfl, ?_⟩; (conv => whnf))); refine callF m2 ⟨.refl _, .refl _, trivial⟩ (by trivial) rfl ?_)
    conv => whnf
    first | refine callF n1 ⟨.refl _, .refl _, trivial⟩ (by trivial) rfl ?_ | ((repeat (refine ⟨by kernel_rfl, ?_⟩; (conv => whnf))); refine callF n1 ⟨.refl _, .refl _, trivial⟩ (by trivial) rfl ?_)
    conv => whnf
    (repeat (refine ⟨by kernel_rfl, ?_⟩; (conv => whnf)))
    refine ⟨(by (try simp only [true_and, and_true, Nat.sub_zero, Nat.zero_add, Int.toNat_natCast]) <;> omega), ?_⟩
    exact .refl _
end Go.Abs

/- Rational numbers: Min, Max, roundings, Size. -/
set_option autoImplicit false
set_option maxHeartbeats 4000000
set_option maxRecDepth 10000
set_option linter.unusedVariables false
set_option linter.unusedSimpArgs false
namespace Go.Abs
open Go Go.Proofs

def rmin (a b : Rat) : Rat := if rcmp a b ≤ 0 then a else b
def rmax (a b : Rat) : Rat := if 0 ≤ rcmp a b then a else b


theorem qMin_ok {x y : AV} {a b : Rat} {s t : Nat} (ha : IsR x a s) (hb : IsR y b t) (hs : s + t ≤ 4398046500000) :
    ACall Try.prog 46 [x, y] (rat (rmin a b)) := by
  have c1 := qCompare_ok ha hb hs
  have n1 := qNorm_ok ha (by omega)
  have n2 := qNorm_ok hb (by omega)
  unfold rmin
  obtain ⟨na, ga, n, ga', n', _, hga, hga', hn, hn', h1⟩ := ha
  obtain ⟨nb, gb, m, gb', m', _, hgb, hgb', hm, hm', h2⟩ := hb
  generalize mkRat (ival na (nval ga n)) (nval ga' n') = a at *
  generalize mkRat (ival nb (nval gb m)) (nval gb' m') = b at *
  generalize rcmp a b = C at *
  by_cases h : C ≤ 0
  · rw [if_pos h]
    refine acall_rule env [0, 1, 2, 3, 4, 8] Try.func46 rfl rfl rfl rfl ?_
    conv => whnf
    first | refine callF c1 ⟨.refl _, .refl _, trivial⟩ (by trivial) rfl ?_ | ((repeat (refine ⟨by kernel_rfl, ?_⟩; (conv => whnf))); refine callF c1 ⟨.refl _, .refl _, trivial⟩ (by trivial) rfl ?_)
    conv => whnf
    refine splT (by simp only [decide_eq_true_eq, decide_eq_false_iff_not, Bool.not_eq_true', Bool.not_eq_false', gt_iff_lt, ge_iff_le] <;> omega) ?_
    conv => whnf
    first | refine callF n1 ⟨.refl _, trivial⟩ (by trivial) rfl ?_ | ((repeat (refine ⟨by kernel_rfl, ?_⟩; (conv => whnf))); refine callF n1 ⟨.refl _, trivial⟩ (by trivial) rfl ?_)
    conv => whnf
    (repeat (refine ⟨by kernel_rfl, ?_⟩; (conv => whnf)))
    refine ⟨(by (try simp only [true_and, and_true, Nat.sub_zero, Nat.zero_add, Int.toNat_natCast]) <;> omega), ?_⟩
    exact .refl _
  · rw [if_neg h]
    refine acall_rule env [0, 1, 2, 3, 4, 8] Try.func46 rfl rfl rfl rfl ?_
    conv => whnf
    first | refine callF c1 ⟨.refl _, .refl _, trivial⟩ (by trivial) rfl ?_ | ((repeat (refine ⟨by kernel_rfl, ?_⟩; (conv => whnf))); refine callF c1 ⟨.refl _, .refl _, trivial⟩ (by trivial) rfl ?_)
    conv => whnf
    refine splF (by simp only [decide_eq_true_eq, decide_eq_false_iff_not, Bool.not_eq_true', Bool.not_eq_false', gt_iff_lt, ge_iff_le] <;> omega) ?_
    conv => whnf
    first | refine callF n2 ⟨.refl _, trivial⟩ (by trivial) rfl ?_ | ((repeat (refine ⟨by kernel_rfl, ?_⟩; (conv => whnf))); refine callF n2 ⟨.refl _, trivial⟩ (by trivial) rfl ?_)
    conv => whnf
    (repeat (refine ⟨by kernel_rfl, ?_⟩; (conv => whnf)))
    refine ⟨(by (try simp only [true_and, and_true, Nat.sub_zero, Nat.zero_add, Int.toNat_natCast]) <;> omega), ?_⟩
    exact .refl _
theorem qMax_ok {x y : AV} {a b : Rat} {s t : Nat} (ha : IsR x a s) (hb : IsR y b t) (hs : s + t ≤ 4398046500000) :
    ACall Try.prog 47 [x, y] (rat (rmax a b)) := by
  have c1 := qCompare_ok ha hb hs
  have n1 := qNorm_ok ha (by omega)
  have n2 := qNorm_ok hb (by omega)
  unfold rmax
  obtain ⟨na, ga, n, ga', n', _, hga, hga', hn, hn', h1⟩ := ha
  obtain ⟨nb, gb, m, gb', m', _, hgb, hgb', hm, hm', h2⟩ := hb
  generalize mkRat (ival na (nval ga n)) (nval ga' n') = a at *
  generalize mkRat (ival nb (nval gb m)) (nval gb' m') = b at *
  generalize rcmp a b = C at *
  by_cases h : 0 ≤ C
  · rw [if_pos h]
    refine acall_rule env [0, 1, 2, 3, 4, 8] Try.func47 rfl rfl rfl rfl ?_
    conv => whnf
    first | refine callF c1 ⟨.refl _, .refl _, trivial⟩ (by trivial) rfl ?_ | ((repeat (refine ⟨by kernel_rfl, ?_⟩; (conv => whnf))); refine callF c1 ⟨.refl _, .refl _, trivial⟩ (by trivial) rfl ?_)
    conv => whnf
    refine splT (by simp only [decide_eq_true_eq, decide_eq_false_iff_not, Bool.not_eq_true', Bool.not_eq_false', gt_iff_lt, ge_iff_le] <;> omega) ?_
    conv => whnf
    first | refine callF n1 ⟨.refl _, trivial⟩ (by trivial) rfl ?_ | ((repeat (refine ⟨by kernel_rfl, ?_⟩; (conv => whnf))); refine callF n1 ⟨.refl _, trivial⟩ (by trivial) rfl ?_)
    conv => whnf
    (repeat (refine ⟨by kernel_rfl, ?_⟩; (conv => whnf)))
    refine ⟨(by (try simp only [true_and, and_true, Nat.sub_zero, Nat.zero_add, Int.toNat_natCast]) <;> omega), ?_⟩
    exact .refl _
  · rw [if_neg h]
    refine acall_rule env [0, 1, 2, 3, 4, 8] Try.func47 rfl rfl rfl rfl ?_
    conv => whnf
    first | refine callF c1 ⟨.refl _, .refl _, trivial⟩ (by trivial) rfl ?_ | ((repeat (refine ⟨by kernel_rfl, ?_⟩; (conv => whnf))); refine callF c1 ⟨.refl _, .refl _, trivial⟩ (by trivial) rfl ?_)
    conv => whnf
    refine splF (by simp only [decide_eq_true_eq, decide_eq_false_iff_not, Bool.not_eq_true', Bool.not_eq_false', gt_iff_lt, ge_iff_le] <;> omega) ?_
    conv => whnf
    first | refine callF n2 ⟨.refl _, trivial⟩ (by trivial) rfl ?_ | ((repeat (refine ⟨by kernel_rfl, ?_⟩; (conv => whnf))); refine callF n2 ⟨.refl _, trivial⟩ (by trivial) rfl ?_)
    conv => whnf
    (repeat (refine ⟨by kernel_rfl, ?_⟩; (conv => whnf)))
    refine ⟨(by (try simp only [true_and, and_true, Nat.sub_zero, Nat.zero_add, Int.toNat_natCast]) <;> omega), ?_⟩
    exact .refl _


theorem qFloor_ok {x : AV} {a : Rat} {s : Nat} (ha : IsR x a s) (hs : s ≤ 4398046500000) : ACall Try.prog 24 [x] (int a.floor) := by
  obtain ⟨p, P, hp, mp, pa, ip, dp, lp, zp, ep⟩ := parts_ok ha (by omega)
  have d1 := iDivMod_ok ip (isI_pos dp lp) (by omega) (by omega)
  unfold idivRes at d1
  rw [if_neg (by omega), ← mk_floor P zp, ← ep] at d1
  clear ep
  obtain ⟨na, ga, n, ga', n', _, hga, hga', hn, hn', h1⟩ := ha
  generalize mkRat (ival na (nval ga n)) (nval ga' n') = a at *
  obtain ⟨np, gp, kp, _, hgp, hkp⟩ := ip
  refine acall_rule env [0, 1, 2, 3, 4, 5] Try.func24 rfl rfl rfl rfl ?_
  conv => whnf
  first | refine callF pa ⟨.refl _, trivial⟩ (by trivial) rfl ?_ | ((repeat (refine ⟨by kernel_rfl, ?_⟩; (conv => whnf))); refine callF pa ⟨.refl _, trivial⟩ (by trivial) rfl ?_)
  conv => whnf
  first | refine callF d1 ⟨.refl _, .refl _, trivial⟩ (by trivial) rfl ?_ | ((repeat (refine ⟨by kernel_rfl, ?_⟩; (conv => whnf))); refine callF d1 ⟨.refl _, .refl _, trivial⟩ (by trivial) rfl ?_)
  conv => whnf
  (repeat (refine ⟨by kernel_rfl, ?_⟩; (conv => whnf)))
  refine ⟨(by (try simp only [true_and, and_true, Nat.sub_zero, Nat.zero_add, Int.toNat_natCast]) <;> omega), ?_⟩
  exact .refl _
theorem qCeil_ok {x : AV} {a : Rat} {s : Nat} (ha : IsR x a s) (hs : s ≤ 4398046500000) : ACall Try.prog 27 [x] (int a.ceil) := by
  have n1 := qNeg_ok ha hs
  have sa := ha.size
  have f1 := qFloor_ok (isR_rat (-a) (s := s) (by rw [rsz_neg]; exact sa)) hs
  have n2 := iNeg_ok (isI_int (-a).floor (rsz_floor (-a) (s := s) (by rw [rsz_neg]; exact sa))) (by omega)
  rw [← Rat.ceil_eq_neg_floor_neg] at n2
  obtain ⟨na, ga, n, ga', n', _, hga, hga', hn, hn', h1⟩ := ha
  generalize mkRat (ival na (nval ga n)) (nval ga' n') = a at *
  generalize a.ceil = c at *
  refine acall_rule env [0, 1, 2] Try.func27 rfl rfl rfl rfl ?_
  conv => whnf
  first | refine callF n1 ⟨.refl _, trivial⟩ (by trivial) rfl ?_ | ((repeat (refine ⟨by kernel_rfl, ?_⟩; (conv => whnf))); refine callF n1 ⟨.refl _, trivial⟩ (by trivial) rfl ?_)
  conv => whnf
  first | refine callF f1 ⟨.refl _, trivial⟩ (by trivial) rfl ?_ | ((repeat (refine ⟨by kernel_rfl, ?_⟩; (conv => whnf))); refine callF f1 ⟨.refl _, trivial⟩ (by trivial) rfl ?_)
  conv => whnf
  first | refine callF n2 ⟨.refl _, trivial⟩ (by trivial) rfl ?_ | ((repeat (refine ⟨by kernel_rfl, ?_⟩; (conv => whnf))); refine callF n2 ⟨.refl _, trivial⟩ (by trivial) rfl ?_)
  conv => whnf
  (repeat (refine ⟨by kernel_rfl, ?_⟩; (conv => whnf)))
  refine ⟨(by (try simp only [true_and, and_true, Nat.sub_zero, Nat.zero_add, Int.toNat_natCast]) <;> omega), ?_⟩
  exact .refl _

theorem odd_abs (z : Int) : (digit z.natAbs 0 % 2 = 1) ↔ z % 2 = 1 := by
  unfold digit
  rw [pw_zero, Nat.div_one]
  omega
theorem qRound_ok {x : AV} {a : Rat} {s : Nat} (ha : IsR x a s) (hs : s ≤ 4398046500000) : ACall Try.prog 28 [x] (int (rround a)) := by
  obtain ⟨p, P, hp, mp, pa, ip, dp, lp, zp, ep⟩ := parts_ok ha (by omega)
  have d1 := iDivMod_ok ip (isI_pos dp lp) (by omega) (by omega)
  unfold idivRes at d1
  have hc := half_cross P zp
  have zr : isz (P % (nval hp mp : Nat)) ≤ s := Nat.le_trans (isz_emod P (nval hp mp : Nat) (by omega)) (by rw [isz_nat]; exact Nat.le_trans (size_nval dp) lp)
  have a1 := iAdd_ok (isI_int _ zr) (isI_int _ zr) (by omega) (by omega)
  have c1 := iCompare_ok (isI_int _ (isz_add zr zr)) (isI_pos dp lp) (by omega) (by omega)
  rw [hc, ← ep] at c1
  rw [if_neg (by omega), ← mk_floor P zp, ← ep] at d1
  have sa := ha.size
  have zf := rsz_floor a sa
  have f1 := iFromInt_ok 1 (by decide)
  have a2 := iAdd_ok (isI_int _ zf) (isI_int 1 (s := 1) (by decide)) (by omega) (by omega)
  unfold rround
  have hodd := odd_abs a.floor
  clear ep hc
  obtain ⟨na, ga, n, ga', n', _, hga, hga', hn, hn', h1⟩ := ha
  generalize mkRat (ival na (nval ga n)) (nval ga' n') = a at *
  generalize a.floor = f at *
  obtain ⟨np, gp, kp, _, hgp, hkp⟩ := ip
  obtain ⟨r, hr⟩ : ∃ r : Int, ival np (nval gp kp) % (nval hp mp : Nat) = r := ⟨_, rfl⟩
  rw [hr] at d1 a1 c1
  clear hr
  obtain ⟨C, hC⟩ : ∃ C : Int, rcmp (2 * (a - (f : Rat))) 1 = C := ⟨_, rfl⟩
  rw [hC] at c1 ⊢
  clear hC
  obtain ⟨D0, hD0⟩ : ∃ D0 : Nat, digit f.natAbs 0 = D0 := ⟨_, rfl⟩
  have hlt : D0 < 4294967296 := by rw [← hD0]; exact digit_lt _ _
  have hz : size f.natAbs = 0 → ¬ D0 % 2 = 1 := by
    intro h; rw [← hD0, size_eq_zero.1 h]; simp [digit]
  rw [hD0] at hodd
  by_cases hup : 0 < C ∨ C = 0 ∧ f % 2 = 1
  · rw [if_pos hup]
    refine acall_rule env [0, 1, 2, 3, 4, 5, 6, 8, 9, 47] Try.func28 rfl rfl rfl rfl ?_
    conv => whnf
    first | refine callF pa ⟨.refl _, trivial⟩ (by trivial) rfl ?_ | ((repeat (refine ⟨by kernel_rfl, ?_⟩; (conv => whnf))); refine callF pa ⟨.refl _, trivial⟩ (by trivial) rfl ?_)
    conv => whnf
    first | refine callF d1 ⟨.refl _, .refl _, trivial⟩ (by trivial) rfl ?_ | ((repeat (refine ⟨by kernel_rfl, ?_⟩; (conv => whnf))); refine callF d1 ⟨.refl _, .refl _, trivial⟩ (by trivial) rfl ?_)
    conv => whnf
    first | refine callF a1 ⟨.refl _, .refl _, trivial⟩ (by trivial) rfl ?_ | ((repeat (refine ⟨by kernel_rfl, ?_⟩; (conv => whnf))); refine callF a1 ⟨.refl _, .refl _, trivial⟩ (by trivial) rfl ?_)
    conv => whnf
    first | refine callF c1 ⟨.refl _, .refl _, trivial⟩ (by trivial) rfl ?_ | ((repeat (refine ⟨by kernel_rfl, ?_⟩; (conv => whnf))); refine callF c1 ⟨.refl _, .refl _, trivial⟩ (by trivial) rfl ?_)
    conv => whnf
    refine ⟨by kernel_rfl, ?_⟩
    conv => whnf
    refine spl (fun h3 => ?_) (fun h3 => ?_) <;> simp only [decide_eq_true_eq, decide_eq_false_iff_not, Bool.not_eq_true', Bool.not_eq_false', gt_iff_lt, ge_iff_le] at h3
    · conv => whnf
      refine ⟨(by (try simp only [true_and, and_true, Nat.sub_zero, Nat.zero_add, Int.toNat_natCast]) <;> omega), ?_⟩
      conv => whnf
      refine andN (a := digit f.natAbs 0) (b := 1) (digit f.natAbs 0 % 2) rfl (show _ < 4294967296 by rw [hD0]; exact hlt) (by decide) (Nat.and_one_is_mod _) ?_
      conv => whnf
      rw [hD0]
      refine spl (fun h4 => ?_) (fun h4 => ?_) <;> simp only [decide_eq_true_eq, decide_eq_false_iff_not, Bool.not_eq_true', Bool.not_eq_false', gt_iff_lt, ge_iff_le] at h4
      · conv => whnf
        first | refine callF f1 ⟨.refl _, trivial⟩ (by trivial) rfl ?_ | ((repeat (refine ⟨by kernel_rfl, ?_⟩; (conv => whnf))); refine callF f1 ⟨.refl _, trivial⟩ (by trivial) rfl ?_)
        conv => whnf
        first | refine callF a2 ⟨.refl _, .refl _, trivial⟩ (by trivial) rfl ?_ | ((repeat (refine ⟨by kernel_rfl, ?_⟩; (conv => whnf))); refine callF a2 ⟨.refl _, .refl _, trivial⟩ (by trivial) rfl ?_)
        conv => whnf
        (repeat (refine ⟨by kernel_rfl, ?_⟩; (conv => whnf)))
        refine ⟨(by (try simp only [true_and, and_true, Nat.sub_zero, Nat.zero_add, Int.toNat_natCast]) <;> omega), ?_⟩
        exact .refl _
      · conv => whnf
        refine splT (by simp only [decide_eq_true_eq, decide_eq_false_iff_not, Bool.not_eq_true', Bool.not_eq_false', gt_iff_lt, ge_iff_le] <;> omega) ?_
        conv => whnf
        refine splT (by simp only [decide_eq_true_eq, decide_eq_false_iff_not, Bool.not_eq_true', Bool.not_eq_false', gt_iff_lt, ge_iff_le] <;> omega) ?_
        conv => whnf
        first | refine callF f1 ⟨.refl _, trivial⟩ (by trivial) rfl ?_ | ((repeat (refine ⟨by kernel_rfl, ?_⟩; (conv => whnf))); refine callF f1 ⟨.refl _, trivial⟩ (by trivial) rfl ?_)
        conv => whnf
        first | refine callF a2 ⟨.refl _, .refl _, trivial⟩ (by trivial) rfl ?_ | ((repeat (refine ⟨by kernel_rfl, ?_⟩; (conv => whnf))); refine callF a2 ⟨.refl _, .refl _, trivial⟩ (by trivial) rfl ?_)
        conv => whnf
        (repeat (refine ⟨by kernel_rfl, ?_⟩; (conv => whnf)))
        refine ⟨(by (try simp only [true_and, and_true, Nat.sub_zero, Nat.zero_add, Int.toNat_natCast]) <;> omega), ?_⟩
        exact .refl _
    · conv => whnf
      have hz' := hz (by omega)
      refine splT (by simp only [decide_eq_true_eq, decide_eq_false_iff_not, Bool.not_eq_true', Bool.not_eq_false', gt_iff_lt, ge_iff_le] <;> omega) ?_
      conv => whnf
      first | refine callF f1 ⟨.refl _, trivial⟩ (by trivial) rfl ?_ | ((repeat (refine ⟨by kernel_rfl, ?_⟩; (conv => whnf))); refine callF f1 ⟨.refl _, trivial⟩ (by trivial) rfl ?_)
      conv => whnf
      first | refine callF a2 ⟨.refl _, .refl _, trivial⟩ (by trivial) rfl ?_ | ((repeat (refine ⟨by kernel_rfl, ?_⟩; (conv => whnf))); refine callF a2 ⟨.refl _, .refl _, trivial⟩ (by trivial) rfl ?_)
      conv => whnf
      (repeat (refine ⟨by kernel_rfl, ?_⟩; (conv => whnf)))
      refine ⟨(by (try simp only [true_and, and_true, Nat.sub_zero, Nat.zero_add, Int.toNat_natCast]) <;> omega), ?_⟩
      exact .refl _
  · rw [if_neg hup]
    refine acall_rule env [0, 1, 2, 3, 4, 5, 6, 8, 9, 47] Try.func28 rfl rfl rfl rfl ?_
    conv => whnf
    first | refine callF pa ⟨.refl _, trivial⟩ (by trivial) rfl ?_ | ((repeat (refine ⟨by kernel_rfl, ?_⟩; (conv => whnf))); refine callF pa ⟨.refl _, trivial⟩ (by trivial) rfl ?_)
    conv => whnf
    first | refine callF d1 ⟨.refl _, .refl _, trivial⟩ (by trivial) rfl ?_ | ((repeat (refine ⟨by kernel_rfl, ?_⟩; (conv => whnf))); refine callF d1 ⟨.refl _, .refl _, trivial⟩ (by trivial) rfl ?_)
    conv => whnf
    first | refine callF a1 ⟨.refl _, .refl _, trivial⟩ (by trivial) rfl ?_ | ((repeat (refine ⟨by kernel_rfl, ?_⟩; (conv => whnf))); refine callF a1 ⟨.refl _, .refl _, trivial⟩ (by trivial) rfl ?_)
    conv => whnf
    first | refine callF c1 ⟨.refl _, .refl _, trivial⟩ (by trivial) rfl ?_ | ((repeat (refine ⟨by kernel_rfl, ?_⟩; (conv => whnf))); refine callF c1 ⟨.refl _, .refl _, trivial⟩ (by trivial) rfl ?_)
    conv => whnf
    refine ⟨by kernel_rfl, ?_⟩
    conv => whnf
    refine spl (fun h3 => ?_) (fun h3 => ?_) <;> simp only [decide_eq_true_eq, decide_eq_false_iff_not, Bool.not_eq_true', Bool.not_eq_false', gt_iff_lt, ge_iff_le] at h3
    · conv => whnf
      refine ⟨(by (try simp only [true_and, and_true, Nat.sub_zero, Nat.zero_add, Int.toNat_natCast]) <;> omega), ?_⟩
      conv => whnf
      refine andN (a := digit f.natAbs 0) (b := 1) (digit f.natAbs 0 % 2) rfl (show _ < 4294967296 by rw [hD0]; exact hlt) (by decide) (Nat.and_one_is_mod _) ?_
      conv => whnf
      rw [hD0]
      refine splF (by simp only [decide_eq_true_eq, decide_eq_false_iff_not, Bool.not_eq_true', Bool.not_eq_false', gt_iff_lt, ge_iff_le] <;> omega) ?_
      conv => whnf
      refine spl (fun h4 => ?_) (fun h4 => ?_) <;> simp only [decide_eq_true_eq, decide_eq_false_iff_not, Bool.not_eq_true', Bool.not_eq_false', gt_iff_lt, ge_iff_le] at h4
      · conv => whnf
        refine splF (by simp only [decide_eq_true_eq, decide_eq_false_iff_not, Bool.not_eq_true', Bool.not_eq_false', gt_iff_lt, ge_iff_le] <;> omega) ?_
        conv => whnf
        (repeat (refine ⟨by kernel_rfl, ?_⟩; (conv => whnf)))
        refine ⟨(by (try simp only [true_and, and_true, Nat.sub_zero, Nat.zero_add, Int.toNat_natCast]) <;> omega), ?_⟩
        exact .refl _
      · conv => whnf
        (repeat (refine ⟨by kernel_rfl, ?_⟩; (conv => whnf)))
        refine ⟨(by (try simp only [true_and, and_true, Nat.sub_zero, Nat.zero_add, Int.toNat_natCast]) <;> omega), ?_⟩
        exact .refl _
    · conv => whnf
      refine splF (by simp only [decide_eq_true_eq, decide_eq_false_iff_not, Bool.not_eq_true', Bool.not_eq_false', gt_iff_lt, ge_iff_le] <;> omega) ?_
      conv => whnf
      refine spl (fun h4 => ?_) (fun h4 => ?_) <;> simp only [decide_eq_true_eq, decide_eq_false_iff_not, Bool.not_eq_true', Bool.not_eq_false', gt_iff_lt, ge_iff_le] at h4
      · conv => whnf
        (repeat (refine ⟨by kernel_rfl, ?_⟩; (conv => whnf)))
        refine ⟨(by (try simp only [true_and, and_true, Nat.sub_zero, Nat.zero_add, Int.toNat_natCast]) <;> omega), ?_⟩
        exact .refl _
      · conv => whnf
        (repeat (refine ⟨by kernel_rfl, ?_⟩; (conv => whnf)))
        refine ⟨(by (try simp only [true_and, and_true, Nat.sub_zero, Nat.zero_add, Int.toNat_natCast]) <;> omega), ?_⟩
        exact .refl _

theorem bitlen_size_le (N : Nat) : bitlen N ≤ 32 * size N := by
  refine bitlen_le ?_
  rw [← pw_two]
  exact lt_pw_size N
theorem qSize_ok {x : AV} {a : Rat} {s : Nat} (ha : IsR x a s) (hs : s ≤ 4398046500000) : ACall Try.prog 16 [x] (.f (.int .i64 ((bitlen a.num.natAbs + bitlen a.den : Nat) : Int))) := by
  have n1 := qNorm_ok ha (by omega)
  have sa := ha.size
  have b1 := Bits_ok (digit a.num.natAbs) (size a.num.natAbs) (digit_Dig _ _) (Nat.le_trans (rsz_num sa) (by omega))
  have b2 := Bits_ok (digit a.den) (size a.den) (digit_Dig _ _) (Nat.le_trans (rsz_den sa) (by omega))
  rw [nval_digit_size] at b1 b2
  have l1 := bitlen_size_le a.num.natAbs
  have l2 := bitlen_size_le a.den
  have z1 := rsz_num sa
  have z2 := rsz_den sa
  unfold isz at z1
  rw [Int.natCast_add]
  obtain ⟨na, ga, n, ga', n', _, hga, hga', hn, hn', h1⟩ := ha
  generalize mkRat (ival na (nval ga n)) (nval ga' n') = a at *
  generalize bitlen a.num.natAbs = N1 at *
  generalize bitlen a.den = N2 at *
  refine acall_rule env [0, 1, 2, 3] Try.func16 rfl rfl rfl rfl ?_
  conv => whnf
  first | refine callF n1 ⟨.refl _, trivial⟩ (by trivial) rfl ?_ | ((repeat (refine ⟨by kernel_rfl, ?_⟩; (conv => whnf))); refine callF n1 ⟨.refl _, trivial⟩ (by trivial) rfl ?_)
  conv => whnf
  first | refine callF b1 ⟨.refl _, trivial⟩ (by trivial) rfl ?_ | ((repeat (refine ⟨by kernel_rfl, ?_⟩; (conv => whnf))); refine callF b1 ⟨.refl _, trivial⟩ (by trivial) rfl ?_)
  conv => whnf
  first | refine callF b2 ⟨.refl _, trivial⟩ (by trivial) rfl ?_ | ((repeat (refine ⟨by kernel_rfl, ?_⟩; (conv => whnf))); refine callF b2 ⟨.refl _, trivial⟩ (by trivial) rfl ?_)
  conv => whnf
  refine fit64 (by omega) ?_
  conv => whnf
  (repeat (refine ⟨by kernel_rfl, ?_⟩; (conv => whnf)))
  refine ⟨(by (try simp only [true_and, and_true, Nat.sub_zero, Nat.zero_add, Int.toNat_natCast]) <;> omega), ?_⟩
  exact .refl _
end Go.Abs

/- The reference's rational numbers: Make, Norm. -/
set_option autoImplicit false
set_option maxHeartbeats 4000000
set_option maxRecDepth 10000
set_option linter.unusedVariables false
set_option linter.unusedSimpArgs false
namespace Go.Abs
open Go Go.Proofs

theorem AVle.nat_one {at_ : Nat → List FV} {c : Option Nat} (h : at_ 0 = [.int .u32 1]) : AVle (.f (.sl 1 at_ 1 c)) (nat 1) := by
  have : nat 1 = .f (.sl 1 (fun j => [.int .u32 (digit 1 j : Nat)]) 1 none) := by unfold nat; rw [size_one]
  rw [this]
  refine .f (.sl (fun i hi => ?_) (.inl rfl))
  obtain rfl : i = 0 := by omega
  rw [h, show digit 1 0 = 1 by decide]
  exact ⟨.refl _, trivial⟩
theorem sZero_ok : ACall Try.prog 36 [] (rat 0) := by
  refine acall_rule env [0] Try.func36 rfl rfl rfl rfl ?_
  conv => whnf
  refine ⟨?_, ?_⟩
  · decide
  · exact .agg ⟨.refl _, .nil_nat, .nat_one rfl, trivial⟩

theorem int_minus (n : Nat) (h : n ≠ 0) : int (-(n : Int)) = .agg [.f (.bool true), nat n] := by
  unfold int
  rw [decide_eq_true (by omega), Int.natAbs_neg, Int.natAbs_natCast]

theorem sMake_ok {x y : AV} {z d : Int} {s t : Nat} (hx : IsI x z s) (hy : IsI y d t) (hs : s ≤ 4398046500000) (ht : t ≤ 4398046500000) :
    ACall Try.prog 75 [x, y] (rat (Rat.divInt z d)) := by
  have s1 := rSign_ok hy (by omega)
  have n1 := rNorm_ok hy (by omega)
  have n2 := rNorm_ok hx (by omega)
  have g1 := rGCD_ok hx hy (by omega) (by omega)
  have q1 := refEqual_nn d.natAbs 1 (Nat.le_trans hy.size (by omega))
  have sx := hx.size
  have sy := hy.size
  have sG : d ≠ 0 → size (Nat.gcd z.natAbs d.natAbs) ≤ t := fun h => size_le_of (Nat.gcd_le_right _ (by omega)) sy
  have d1 := fun h => rDivMod_ok hx (isI_int (Nat.gcd z.natAbs d.natAbs : Nat) (by rw [isz_nat]; exact sG h)) (by omega) (by omega)
  have d2 := fun h => rDivMod_ok hy (isI_int (Nat.gcd z.natAbs d.natAbs : Nat) (by rw [isz_nat]; exact sG h)) (by omega) (by omega)
  obtain ⟨nx, gx, lx, _, hgx, hlx⟩ := hx
  obtain ⟨ny, gy, ly, _, hgy, hly⟩ := hy
  generalize ival nx (nval gx lx) = z at *
  generalize ival ny (nval gy ly) = d at *
  have z0 := sZero_ok
  by_cases h0 : d = 0
  · subst h0
    rw [Rat.divInt_zero]
    refine acall_rule env [0, 1, 2, 3, 4, 5, 6, 7, 10, 15, 27, 51] Try.func75 rfl rfl rfl rfl ?_
    conv => whnf
    first | refine callF s1 ⟨.refl _, trivial⟩ (by trivial) rfl ?_ | ((repeat (refine ⟨by kernel_rfl, ?_⟩; (conv => whnf))); refine callF s1 ⟨.refl _, trivial⟩ (by trivial) rfl ?_)
    conv => whnf
    first | refine callF z0 trivial (by trivial) rfl ?_ | ((repeat (refine ⟨by kernel_rfl, ?_⟩; (conv => whnf))); refine callF z0 trivial (by trivial) rfl ?_)
    conv => whnf
    (repeat (refine ⟨by kernel_rfl, ?_⟩; (conv => whnf)))
    refine ⟨(by (try simp only [true_and, and_true, Nat.sub_zero, Nat.zero_add, Int.toNat_natCast]) <;> omega), ?_⟩
    exact .refl _
  have hs0 : ¬ sgn d = 0 := fun h => h0 (sgn_iff.1 h)
  obtain ⟨S, hS⟩ : ∃ S, sgn d = S := ⟨_, rfl⟩
  rw [hS] at s1 hs0
  clear hS
  replace d1 := d1 h0
  replace d2 := d2 h0
  unfold idivRes at d1 d2
  have hG0 : ((Nat.gcd z.natAbs d.natAbs : Nat) : Int) ≠ 0 := by
    have : 0 < Nat.gcd z.natAbs d.natAbs := Nat.gcd_pos_of_pos_right _ (by omega)
    omega
  rw [if_neg hG0] at d1 d2
  by_cases hd : d < 0
  · obtain ⟨D, rfl⟩ : ∃ D : Nat, d = -(D : Int) := ⟨d.natAbs, by omega⟩
    have hD : D ≠ 0 := by omega
    rw [Int.natAbs_neg, Int.natAbs_natCast] at *
    rw [Rat.divInt_neg', Rat.divInt_ofNat]
    rw [int_minus D hD] at n1
    have e1 : -(z / ((Nat.gcd z.natAbs D : Nat) : Int)) = (mkRat (-z) D).num := by
      rw [Rat.num_mkRat, if_neg hD, Int.natAbs_neg, Nat.gcd_comm D, Int.neg_ediv_of_dvd (Rat.normalize.dvd_num rfl)]
    have e2 : -(D : Int) / ((Nat.gcd z.natAbs D : Nat) : Int) = -(((mkRat (-z) D).den : Nat) : Int) := by
      rw [Rat.den_mkRat, if_neg hD, Int.natAbs_neg, Nat.gcd_comm D, Int.natCast_ediv, Int.neg_ediv_of_dvd]
      exact Int.natCast_dvd_natCast.2 (Nat.gcd_dvd_right _ _)
    have hden := (mkRat (-z) D).den_nz
    have sq := rsz_mk (-z) D (s := max s t + 1) (by rw [isz_neg]; omega) (by have := sy; rw [isz_neg, isz_nat] at this; omega) (by omega)
    rw [e2, int_minus _ hden] at d2
    have e3 : z / ((Nat.gcd z.natAbs D : Nat) : Int) = -(mkRat (-z) D).num := by rw [← e1]; omega
    rw [e3] at d1
    generalize mkRat (-z) D = q at *
    have r1 := rNeg_ok (isI_int (-q.num) (s := max s t + 1) (by rw [isz_neg]; exact rsz_num sq)) (by omega)
    have r2 := rNeg_ok (isI_int (-(q.den : Int)) (s := max s t + 1) (by rw [isz_neg, isz_nat]; exact rsz_den sq)) (by omega)
    rw [Int.neg_neg] at r1 r2
    rw [int_minus _ hden, int_nonneg] at r2
    refine acall_rule env [0, 1, 2, 3, 4, 5, 6, 7, 10, 15, 27, 51] Try.func75 rfl rfl rfl rfl ?_
    conv => whnf
    first | refine callF s1 ⟨.refl _, trivial⟩ (by trivial) rfl ?_ | ((repeat (refine ⟨by kernel_rfl, ?_⟩; (conv => whnf))); refine callF s1 ⟨.refl _, trivial⟩ (by trivial) rfl ?_)
    conv => whnf
    refine splF (by simp only [decide_eq_true_eq, decide_eq_false_iff_not, Bool.not_eq_true', Bool.not_eq_false', gt_iff_lt, ge_iff_le] <;> omega) ?_
    conv => whnf
    first | refine callF n1 ⟨.refl _, trivial⟩ (by trivial) rfl ?_ | ((repeat (refine ⟨by kernel_rfl, ?_⟩; (conv => whnf))); refine callF n1 ⟨.refl _, trivial⟩ (by trivial) rfl ?_)
    conv => whnf
    first | refine callF g1 ⟨.refl _, .refl _, trivial⟩ (by trivial) rfl ?_ | ((repeat (refine ⟨by kernel_rfl, ?_⟩; (conv => whnf))); refine callF g1 ⟨.refl _, .refl _, trivial⟩ (by trivial) rfl ?_)
    conv => whnf
    first | refine callF d1 ⟨.refl _, .refl _, trivial⟩ (by trivial) rfl ?_ | ((repeat (refine ⟨by kernel_rfl, ?_⟩; (conv => whnf))); refine callF d1 ⟨.refl _, .refl _, trivial⟩ (by trivial) rfl ?_)
    conv => whnf
    first | refine callF d2 ⟨.refl _, .refl _, trivial⟩ (by trivial) rfl ?_ | ((repeat (refine ⟨by kernel_rfl, ?_⟩; (conv => whnf))); refine callF d2 ⟨.refl _, .refl _, trivial⟩ (by trivial) rfl ?_)
    conv => whnf
    first | refine callF r1 ⟨.refl _, trivial⟩ (by trivial) rfl ?_ | ((repeat (refine ⟨by kernel_rfl, ?_⟩; (conv => whnf))); refine callF r1 ⟨.refl _, trivial⟩ (by trivial) rfl ?_)
    conv => whnf
    first | refine callF r2 ⟨.refl _, trivial⟩ (by trivial) rfl ?_ | ((repeat (refine ⟨by kernel_rfl, ?_⟩; (conv => whnf))); refine callF r2 ⟨.refl _, trivial⟩ (by trivial) rfl ?_)
    conv => whnf
    (repeat (refine ⟨by kernel_rfl, ?_⟩; (conv => whnf)))
    refine ⟨(by (try simp only [true_and, and_true, Nat.sub_zero, Nat.zero_add, Int.toNat_natCast]) <;> omega), ?_⟩
    exact .refl _
  · obtain ⟨D, rfl⟩ : ∃ D : Nat, d = (D : Int) := ⟨d.natAbs, by omega⟩
    have hD : D ≠ 0 := by omega
    rw [Int.natAbs_natCast] at *
    rw [Rat.divInt_ofNat]
    rw [int_nonneg] at n1
    by_cases h1 : D = 1
    · subst h1
      rw [decide_eq_true rfl] at q1
      have e : rat (mkRat z 1) = .agg [.f (.bool (decide (z < 0))), nat z.natAbs, nat 1] := by
        rw [mk_rat z hD, Nat.gcd_one_right, Nat.div_one, Nat.div_one]
      rw [e]
      refine acall_rule env [0, 1, 2, 3, 4, 5, 6, 7, 10, 15, 27, 51] Try.func75 rfl rfl rfl rfl ?_
      conv => whnf
      first | refine callF s1 ⟨.refl _, trivial⟩ (by trivial) rfl ?_ | ((repeat (refine ⟨by kernel_rfl, ?_⟩; (conv => whnf))); refine callF s1 ⟨.refl _, trivial⟩ (by trivial) rfl ?_)
      conv => whnf
      refine splF (by simp only [decide_eq_true_eq, decide_eq_false_iff_not, Bool.not_eq_true', Bool.not_eq_false', gt_iff_lt, ge_iff_le] <;> omega) ?_
      conv => whnf
      first | refine callF n1 ⟨.refl _, trivial⟩ (by trivial) rfl ?_ | ((repeat (refine ⟨by kernel_rfl, ?_⟩; (conv => whnf))); refine callF n1 ⟨.refl _, trivial⟩ (by trivial) rfl ?_)
      conv => whnf
      refine callF q1 ⟨.refl _, .nat_one rfl, trivial⟩ ?_ rfl ?_
      conv => whnf
      · decide
      first | refine callF n2 ⟨.refl _, trivial⟩ (by trivial) rfl ?_ | ((repeat (refine ⟨by kernel_rfl, ?_⟩; (conv => whnf))); refine callF n2 ⟨.refl _, trivial⟩ (by trivial) rfl ?_)
      conv => whnf
      (repeat (refine ⟨by kernel_rfl, ?_⟩; (conv => whnf)))
      refine ⟨(by (try simp only [true_and, and_true, Nat.sub_zero, Nat.zero_add, Int.toNat_natCast]) <;> omega), ?_⟩
      exact .refl _
    have e1 : z / ((Nat.gcd z.natAbs D : Nat) : Int) = (mkRat z D).num := by
      rw [Rat.num_mkRat, if_neg hD, Nat.gcd_comm]
    have e2 : (D : Int) / ((Nat.gcd z.natAbs D : Nat) : Int) = (((mkRat z D).den : Nat) : Int) := by
      rw [Rat.den_mkRat, if_neg hD, Nat.gcd_comm, Int.natCast_ediv]
    rw [e2, int_nonneg] at d2
    rw [e1] at d1
    generalize mkRat z D = q at *
    rw [decide_eq_false h1] at q1
    refine acall_rule env [0, 1, 2, 3, 4, 5, 6, 7, 10, 15, 27, 51] Try.func75 rfl rfl rfl rfl ?_
    conv => whnf
    first | refine callF s1 ⟨.refl _, trivial⟩ (by trivial) rfl ?_ | ((repeat (refine ⟨by kernel_rfl, ?_⟩; (conv => whnf))); refine callF s1 ⟨.refl _, trivial⟩ (by trivial) rfl ?_)
    conv => whnf
    refine splF (by simp only [decide_eq_true_eq, decide_eq_false_iff_not, Bool.not_eq_true', Bool.not_eq_false', gt_iff_lt, ge_iff_le] <;> omega) ?_
    conv => whnf
    first | refine callF n1 ⟨.refl _, trivial⟩ (by trivial) rfl ?_ | ((repeat (refine ⟨by kernel_rfl, ?_⟩; (conv => whnf))); refine callF n1 ⟨.refl _, trivial⟩ (by trivial) rfl ?_)
    conv => whnf
    refine callF q1 ⟨.refl _, .nat_one rfl, trivial⟩ ?_ rfl ?_
    conv => whnf
    · decide
    first | refine callF g1 ⟨.refl _, .refl _, trivial⟩ (by trivial) rfl ?_ | ((repeat (refine ⟨by kernel_rfl, ?_⟩; (conv => whnf))); refine callF g1 ⟨.refl _, .refl _, trivial⟩ (by trivial) rfl ?_)
    conv => whnf
    first | refine callF d1 ⟨.refl _, .refl _, trivial⟩ (by trivial) rfl ?_ | ((repeat (refine ⟨by kernel_rfl, ?_⟩; (conv => whnf))); refine callF d1 ⟨.refl _, .refl _, trivial⟩ (by trivial) rfl ?_)
    conv => whnf
    first | refine callF d2 ⟨.refl _, .refl _, trivial⟩ (by trivial) rfl ?_ | ((repeat (refine ⟨by kernel_rfl, ?_⟩; (conv => whnf))); refine callF d2 ⟨.refl _, .refl _, trivial⟩ (by trivial) rfl ?_)
    conv => whnf
    (repeat (refine ⟨by kernel_rfl, ?_⟩; (conv => whnf)))
    refine ⟨(by (try simp only [true_and, and_true, Nat.sub_zero, Nat.zero_add, Int.toNat_natCast]) <;> omega), ?_⟩
    exact .refl _
end Go.Abs

/- The reference's rational numbers. -/
set_option autoImplicit false
set_option maxHeartbeats 4000000
set_option maxRecDepth 10000
set_option linter.unusedVariables false
set_option linter.unusedSimpArgs false
namespace Go.Abs
open Go Go.Proofs


theorem divInt_one (v : Int) : Rat.divInt v 1 = (v : Rat) := by
  show Rat.divInt v ((1 : Nat) : Int) = _
  rw [Rat.divInt_ofNat]; exact Rat.mkRat_self (v : Rat)
theorem sNorm_ok {x : AV} {a : Rat} {s : Nat} (ha : IsR x a s) (hs : s ≤ 4398046500000) : ACall Try.prog 55 [x] (rat a) := by
  obtain ⟨na, ga, n, ga', n', _, hga, hga', hn, hn', h1⟩ := ha
  have m := sMake_ok (.mk na ga n s hga hn) (isI_pos hga' hn') hs hs
  rw [Rat.divInt_ofNat] at m
  generalize mkRat (ival na (nval ga n)) (nval ga' n') = a at *
  refine acall_rule env [0, 1, 2] Try.func55 rfl rfl rfl rfl ?_
  conv => whnf
  first | refine callF m ⟨.refl _, .refl _, trivial⟩ (by trivial) rfl ?_ | ((repeat (refine ⟨by kernel_rfl, ?_⟩; (conv => whnf))); refine callF m ⟨.refl _, .refl _, trivial⟩ (by trivial) rfl ?_)
  conv => whnf
  (repeat (refine ⟨by kernel_rfl, ?_⟩; (conv => whnf)))
  refine ⟨(by (try simp only [true_and, and_true, Nat.sub_zero, Nat.zero_add, Int.toNat_natCast]) <;> omega), ?_⟩
  exact .refl _
theorem sEqual_ok (a b : Rat) (h : rsz a ≤ 4398046500000) : ACall Try.prog 14 [rat a, rat b] (.f (.bool (decide (a = b)))) := by
  have e1 := rEqual_ii a.num b.num (Nat.le_trans (rsz_num h) (by omega))
  have e2 := refEqual_nn a.den b.den (Nat.le_trans (rsz_den h) (by omega))
  have hab : a = b ↔ a.num = b.num ∧ a.den = b.den := ⟨fun h => by rw [h]; exact ⟨rfl, rfl⟩, fun h => Rat.ext h.1 h.2⟩
  by_cases h1 : a.num = b.num
  · rw [show decide (a = b) = decide (a.den = b.den) by simp only [hab, h1, true_and]]
    rw [decide_eq_true h1] at e1
    refine acall_rule env [0, 1, 2, 3, 4] Try.func14 rfl rfl rfl rfl ?_
    conv => whnf
    first | refine callF e1 ⟨.refl _, .refl _, trivial⟩ (by trivial) rfl ?_ | ((repeat (refine ⟨by kernel_rfl, ?_⟩; (conv => whnf))); refine callF e1 ⟨.refl _, .refl _, trivial⟩ (by trivial) rfl ?_)
    conv => whnf
    first | refine callF e2 ⟨.refl _, .refl _, trivial⟩ (by trivial) rfl ?_ | ((repeat (refine ⟨by kernel_rfl, ?_⟩; (conv => whnf))); refine callF e2 ⟨.refl _, .refl _, trivial⟩ (by trivial) rfl ?_)
    conv => whnf
    (repeat (refine ⟨by kernel_rfl, ?_⟩; (conv => whnf)))
    refine ⟨(by (try simp only [true_and, and_true, Nat.sub_zero, Nat.zero_add, Int.toNat_natCast]) <;> omega), ?_⟩
    exact .refl _
  · rw [show decide (a = b) = false by simp only [hab, h1, false_and, decide_false]]
    rw [decide_eq_false h1] at e1
    refine acall_rule env [0, 1, 2, 3, 4] Try.func14 rfl rfl rfl rfl ?_
    conv => whnf
    first | refine callF e1 ⟨.refl _, .refl _, trivial⟩ (by trivial) rfl ?_ | ((repeat (refine ⟨by kernel_rfl, ?_⟩; (conv => whnf))); refine callF e1 ⟨.refl _, .refl _, trivial⟩ (by trivial) rfl ?_)
    conv => whnf
    (repeat (refine ⟨by kernel_rfl, ?_⟩; (conv => whnf)))
    refine ⟨(by (try simp only [true_and, and_true, Nat.sub_zero, Nat.zero_add, Int.toNat_natCast]) <;> omega), ?_⟩
    exact .refl _
theorem sEqual_same (a : Rat) (h : rsz a ≤ 4398046500000) : ACall Try.prog 14 [rat a, rat a] (.f (.bool true)) := by
  have := sEqual_ok a a h
  rwa [decide_eq_true rfl] at this
theorem sEqual_rat0 : ACall Try.prog 14 [rat0, rat0] (.f (.bool true)) := by
  have e1 := rEqual_raw false false (digit 0) (digit 0) (size 0) (size 0) (digit_Dig _ _) (digit_Dig _ _) (by decide)
  have e2 := refEqual_nn 0 0 (by decide)
  rw [decide_eq_true (by simp)] at e1 e2
  refine acall_rule env [0, 1, 2, 3, 4] Try.func14 rfl rfl rfl rfl ?_
  conv => whnf
  first | refine callF e1 ⟨.refl _, .refl _, trivial⟩ (by trivial) rfl ?_ | ((repeat (refine ⟨by kernel_rfl, ?_⟩; (conv => whnf))); refine callF e1 ⟨.refl _, .refl _, trivial⟩ (by trivial) rfl ?_)
  conv => whnf
  first | refine callF e2 ⟨.refl _, .refl _, trivial⟩ (by trivial) rfl ?_ | ((repeat (refine ⟨by kernel_rfl, ?_⟩; (conv => whnf))); refine callF e2 ⟨.refl _, .refl _, trivial⟩ (by trivial) rfl ?_)
  conv => whnf
  (repeat (refine ⟨by kernel_rfl, ?_⟩; (conv => whnf)))
  refine ⟨(by (try simp only [true_and, and_true, Nat.sub_zero, Nat.zero_add, Int.toNat_natCast]) <;> omega), ?_⟩
  exact .refl _
theorem sCanonical_rat (a : Rat) (h : rsz a ≤ 4398046500000) : ACall Try.prog 13 [rat a] (.f (.bool true)) := by
  have n := sNorm_ok (isR_rat a h) (Nat.le_refl _)
  have e := sEqual_same a h
  refine acall_rule env [0, 1, 2] Try.func13 rfl rfl rfl rfl ?_
  conv => whnf
  first | refine callF n ⟨.refl _, trivial⟩ (by trivial) rfl ?_ | ((repeat (refine ⟨by kernel_rfl, ?_⟩; (conv => whnf))); refine callF n ⟨.refl _, trivial⟩ (by trivial) rfl ?_)
  conv => whnf
  first | refine callF e ⟨.refl _, .refl _, trivial⟩ (by trivial) rfl ?_ | ((repeat (refine ⟨by kernel_rfl, ?_⟩; (conv => whnf))); refine callF e ⟨.refl _, .refl _, trivial⟩ (by trivial) rfl ?_)
  conv => whnf
  (repeat (refine ⟨by kernel_rfl, ?_⟩; (conv => whnf)))
  refine ⟨(by (try simp only [true_and, and_true, Nat.sub_zero, Nat.zero_add, Int.toNat_natCast]) <;> omega), ?_⟩
  exact .refl _
theorem sDen_ok {x : AV} {a : Rat} {s : Nat} (ha : IsR x a s) (hs : s ≤ 4398046500000) : ACall Try.prog 72 [x] (int (a.den : Nat)) := by
  have n := sNorm_ok ha hs
  rw [int_nonneg]
  obtain ⟨na, ga, la, ga', la', _, hga, hga', hn, hn', h1⟩ := ha
  generalize mkRat (ival na (nval ga la)) (nval ga' la') = a at *
  refine acall_rule env [0, 1, 2] Try.func72 rfl rfl rfl rfl ?_
  conv => whnf
  first | refine callF n ⟨.refl _, trivial⟩ (by trivial) rfl ?_ | ((repeat (refine ⟨by kernel_rfl, ?_⟩; (conv => whnf))); refine callF n ⟨.refl _, trivial⟩ (by trivial) rfl ?_)
  conv => whnf
  (repeat (refine ⟨by kernel_rfl, ?_⟩; (conv => whnf)))
  refine ⟨(by (try simp only [true_and, and_true, Nat.sub_zero, Nat.zero_add, Int.toNat_natCast]) <;> omega), ?_⟩
  exact .refl _
theorem sFromInt_ok (v : Int) (h : -9223372036854775808 ≤ v ∧ v ≤ 9223372036854775807) : ACall Try.prog 37 [.f (.int .i64 v)] (rat (v : Rat)) := by
  have f := rFromInt_ok v h
  have o := rFromInt_ok 1 (by decide)
  have m := sMake_ok (isI_int v (s := 2) (isz_small (by omega))) (isI_int 1 (s := 1) (by decide)) (by omega) (by omega)
  rw [divInt_one] at m
  refine acall_rule env [0, 2] Try.func37 rfl rfl rfl rfl ?_
  conv => whnf
  first | refine callF f ⟨.refl _, trivial⟩ (by trivial) rfl ?_ | ((repeat (refine ⟨by kernel_rfl, ?_⟩; (conv => whnf))); refine callF f ⟨.refl _, trivial⟩ (by trivial) rfl ?_)
  conv => whnf
  first | refine callF o ⟨.refl _, trivial⟩ (by trivial) rfl ?_ | ((repeat (refine ⟨by kernel_rfl, ?_⟩; (conv => whnf))); refine callF o ⟨.refl _, trivial⟩ (by trivial) rfl ?_)
  conv => whnf
  first | refine callF m ⟨.refl _, .refl _, trivial⟩ (by trivial) rfl ?_ | ((repeat (refine ⟨by kernel_rfl, ?_⟩; (conv => whnf))); refine callF m ⟨.refl _, .refl _, trivial⟩ (by trivial) rfl ?_)
  conv => whnf
  (repeat (refine ⟨by kernel_rfl, ?_⟩; (conv => whnf)))
  refine ⟨(by (try simp only [true_and, and_true, Nat.sub_zero, Nat.zero_add, Int.toNat_natCast]) <;> omega), ?_⟩
  exact .refl _
theorem sOf_ok (n d : Int) (hn : -9223372036854775808 ≤ n ∧ n ≤ 9223372036854775807) (hd : -9223372036854775808 ≤ d ∧ d ≤ 9223372036854775807) : ACall Try.prog 33 [.f (.int .i64 n), .f (.int .i64 d)] (rat (Rat.divInt n d)) := by
  have f := rFromInt_ok n hn
  have o := rFromInt_ok d hd
  have m := sMake_ok (isI_int n (s := 2) (isz_small (by omega))) (isI_int d (s := 2) (isz_small (by omega))) (by omega) (by omega)
  refine acall_rule env [0, 1, 4] Try.func33 rfl rfl rfl rfl ?_
  conv => whnf
  first | refine callF f ⟨.refl _, trivial⟩ (by trivial) rfl ?_ | ((repeat (refine ⟨by kernel_rfl, ?_⟩; (conv => whnf))); refine callF f ⟨.refl _, trivial⟩ (by trivial) rfl ?_)
  conv => whnf
  first | refine callF o ⟨.refl _, trivial⟩ (by trivial) rfl ?_ | ((repeat (refine ⟨by kernel_rfl, ?_⟩; (conv => whnf))); refine callF o ⟨.refl _, trivial⟩ (by trivial) rfl ?_)
  conv => whnf
  first | refine callF m ⟨.refl _, .refl _, trivial⟩ (by trivial) rfl ?_ | ((repeat (refine ⟨by kernel_rfl, ?_⟩; (conv => whnf))); refine callF m ⟨.refl _, .refl _, trivial⟩ (by trivial) rfl ?_)
  conv => whnf
  (repeat (refine ⟨by kernel_rfl, ?_⟩; (conv => whnf)))
  refine ⟨(by (try simp only [true_and, and_true, Nat.sub_zero, Nat.zero_add, Int.toNat_natCast]) <;> omega), ?_⟩
  exact .refl _
theorem sSign_ok {x : AV} {a : Rat} {s : Nat} (ha : IsR x a s) (hs : s ≤ 4398046500000) : ACall Try.prog 19 [x] (.f (.int .i64 (rcmp a 0))) := by
  have n := sNorm_ok ha hs
  have sa := ha.size
  have g := rSign_ok (isI_int a.num (rsz_num sa)) (by omega)
  rw [rcmp_num]
  obtain ⟨na, ga, la, ga', la', _, hga, hga', hn, hn', h1⟩ := ha
  generalize mkRat (ival na (nval ga la)) (nval ga' la') = a at *
  refine acall_rule env [0, 1, 2] Try.func19 rfl rfl rfl rfl ?_
  conv => whnf
  first | refine callF n ⟨.refl _, trivial⟩ (by trivial) rfl ?_ | ((repeat (refine ⟨by kernel_rfl, ?_⟩; (conv => whnf))); refine callF n ⟨.refl _, trivial⟩ (by trivial) rfl ?_)
  conv => whnf
  first | refine callF g ⟨.refl _, trivial⟩ (by trivial) rfl ?_ | ((repeat (refine ⟨by kernel_rfl, ?_⟩; (conv => whnf))); refine callF g ⟨.refl _, trivial⟩ (by trivial) rfl ?_)
  conv => whnf
  (repeat (refine ⟨by kernel_rfl, ?_⟩; (conv => whnf)))
  refine ⟨(by (try simp only [true_and, and_true, Nat.sub_zero, Nat.zero_add, Int.toNat_natCast]) <;> omega), ?_⟩
  exact .refl _
theorem sNeg_ok {x : AV} {a : Rat} {s : Nat} (ha : IsR x a s) (hs : s ≤ 4398046500000) : ACall Try.prog 40 [x] (rat (-a)) := by
  have n := sNorm_ok ha hs
  have sa := ha.size
  have g := rNeg_ok (isI_int a.num (rsz_num sa)) (by omega)
  have d := sDen_ok ha hs
  have m := sMake_ok (isI_int (-a.num) (s := s) (by rw [isz_neg]; exact rsz_num sa)) (isI_int (a.den : Nat) (s := s) (by rw [isz_nat]; exact rsz_den sa)) hs hs
  rw [← Rat.neg_divInt, Rat.num_divInt_den] at m
  obtain ⟨na, ga, la, ga', la', _, hga, hga', hn, hn', h1⟩ := ha
  generalize mkRat (ival na (nval ga la)) (nval ga' la') = a at *
  refine acall_rule env [0, 1, 2] Try.func40 rfl rfl rfl rfl ?_
  conv => whnf
  first | refine callF n ⟨.refl _, trivial⟩ (by trivial) rfl ?_ | ((repeat (refine ⟨by kernel_rfl, ?_⟩; (conv => whnf))); refine callF n ⟨.refl _, trivial⟩ (by trivial) rfl ?_)
  conv => whnf
  first | refine callF g ⟨.refl _, trivial⟩ (by trivial) rfl ?_ | ((repeat (refine ⟨by kernel_rfl, ?_⟩; (conv => whnf))); refine callF g ⟨.refl _, trivial⟩ (by trivial) rfl ?_)
  conv => whnf
  first | refine callF d ⟨.refl _, trivial⟩ (by trivial) rfl ?_ | ((repeat (refine ⟨by kernel_rfl, ?_⟩; (conv => whnf))); refine callF d ⟨.refl _, trivial⟩ (by trivial) rfl ?_)
  conv => whnf
  first | refine callF m ⟨.refl _, .refl _, trivial⟩ (by trivial) rfl ?_ | ((repeat (refine ⟨by kernel_rfl, ?_⟩; (conv => whnf))); refine callF m ⟨.refl _, .refl _, trivial⟩ (by trivial) rfl ?_)
  conv => whnf
  (repeat (refine ⟨by kernel_rfl, ?_⟩; (conv => whnf)))
  refine ⟨(by (try simp only [true_and, and_true, Nat.sub_zero, Nat.zero_add, Int.toNat_natCast]) <;> omega), ?_⟩
  exact .refl _
theorem sAdd_ok {x y : AV} {a b : Rat} {s t : Nat} (ha : IsR x a s) (hb : IsR y b t) (hs : s + t ≤ 4398046400000) :
    ACall Try.prog 41 [x, y] (rat (a + b)) := by
  have n1 := sNorm_ok ha (by omega)
  have n2 := sNorm_ok hb (by omega)
  have sa := ha.size
  have sb := hb.size
  have d1 := sDen_ok ha (by omega)
  have d2 := sDen_ok hb (by omega)
  have za := isI_int a.num (rsz_num sa)
  have zb := isI_int b.num (rsz_num sb)
  have ya := isI_int (a.den : Nat) (s := s) (by rw [isz_nat]; exact rsz_den sa)
  have yb := isI_int (b.den : Nat) (s := t) (by rw [isz_nat]; exact rsz_den sb)
  have m1 := rMul_ok za yb (by omega)
  have m2 := rMul_ok zb ya (by omega)
  have m3 := rMul_ok ya yb (by omega)
  have w1 := isz_mul za.size yb.size
  have w2 := isz_mul zb.size ya.size
  have w3 := isz_mul ya.size yb.size
  have a1 := rAdd_ok (isI_int _ w1) (isI_int _ w2) (by omega) (by omega)
  have w4 := isz_add w1 w2
  have mk := sMake_ok (isI_int _ w4) (isI_int _ w3) (by omega) (by omega)
  rw [show Rat.divInt (a.num * (b.den : Nat) + b.num * (a.den : Nat)) ((a.den : Nat) * (b.den : Nat)) = a + b by rw [Rat.add_def', ← Rat.divInt_ofNat, Int.natCast_mul]] at mk
  clear za zb ya yb
  obtain ⟨na, ga, n, ga', n', _, hga, hga', hn, hn', h1⟩ := ha
  obtain ⟨nb, gb, m, gb', m', _, hgb, hgb', hm, hm', h2⟩ := hb
  generalize mkRat (ival na (nval ga n)) (nval ga' n') = a at *
  generalize mkRat (ival nb (nval gb m)) (nval gb' m') = b at *
  refine acall_rule env [0, 1, 2, 3, 4, 5, 6] Try.func41 rfl rfl rfl rfl ?_
  conv => whnf
  first | refine callF n1 ⟨.refl _, trivial⟩ (by trivial) rfl ?_ | ((repeat (refine ⟨by kernel_rfl, ?_⟩; (conv => whnf))); refine callF n1 ⟨.refl _, trivial⟩ (by trivial) rfl ?_)
  conv => whnf
  first | refine callF n2 ⟨.refl _, trivial⟩ (by trivial) rfl ?_ | ((repeat (refine ⟨by kernel_rfl, ?_⟩; (conv => whnf))); refine callF n2 ⟨.refl _, trivial⟩ (by trivial) rfl ?_)
  conv => whnf
  first | refine callF d2 ⟨.refl _, trivial⟩ (by trivial) rfl ?_ | ((repeat (refine ⟨by kernel_rfl, ?_⟩; (conv => whnf))); refine callF d2 ⟨.refl _, trivial⟩ (by trivial) rfl ?_)
  conv => whnf
  first | refine callF m1 ⟨.refl _, .refl _, trivial⟩ (by trivial) rfl ?_ | ((repeat (refine ⟨by kernel_rfl, ?_⟩; (conv => whnf))); refine callF m1 ⟨.refl _, .refl _, trivial⟩ (by trivial) rfl ?_)
  conv => whnf
  first | refine callF d1 ⟨.refl _, trivial⟩ (by trivial) rfl ?_ | ((repeat (refine ⟨by kernel_rfl, ?_⟩; (conv => whnf))); refine callF d1 ⟨.refl _, trivial⟩ (by trivial) rfl ?_)
  conv => whnf
  first | refine callF m2 ⟨.refl _, .refl _, trivial⟩ (by trivial) rfl ?_ | ((repeat (refine ⟨by kernel_rfl, ?_⟩; (conv => whnf))); refine callF m2 ⟨.refl _, .refl _, trivial⟩ (by trivial) rfl ?_)
  conv => whnf
  first | refine callF a1 ⟨.refl _, .refl _, trivial⟩ (by trivial) rfl ?_ | ((repeat (refine ⟨by kernel_rfl, ?_⟩; (conv => whnf))); refine callF a1 ⟨.refl _, .refl _, trivial⟩ (by trivial) rfl ?_)
  conv => whnf
  first | refine callF d1 ⟨.refl _, trivial⟩ (by trivial) rfl ?_ | ((repeat (refine ⟨by kernel_rfl, ?_⟩; (conv => whnf))); refine callF d1 ⟨.refl _, trivial⟩ (by trivial) rfl ?_)
  conv => whnf
  first | refine callF d2 ⟨.refl _, trivial⟩ (by trivial) rfl ?_ | ((repeat (refine ⟨by kernel_rfl, ?_⟩; (conv => whnf))); refine callF d2 ⟨.refl _, trivial⟩ (by trivial) rfl ?_)
  conv => whnf
  first | refine callF m3 ⟨.refl _, .refl _, trivial⟩ (by trivial) rfl ?_ | ((repeat (refine ⟨by kernel_rfl, ?_⟩; (conv => whnf))); refine callF m3 ⟨.refl _, .refl _, trivial⟩ (by trivial) rfl ?_)
  conv => whnf
  first | refine callF mk ⟨.refl _, .refl _, trivial⟩ (by trivial) rfl ?_ | ((repeat (refine ⟨by kernel_rfl, ?_⟩; (conv => whnf))); refine callF mk ⟨.refl _, .refl _, trivial⟩ (by trivial) rfl ?_)
  conv => whnf
  (repeat (refine ⟨by kernel_rfl, ?_⟩; (conv => whnf)))
  refine ⟨(by (try simp only [true_and, and_true, Nat.sub_zero, Nat.zero_add, Int.toNat_natCast]) <;> omega), ?_⟩
  exact .refl _
theorem sSub_ok {x y : AV} {a b : Rat} {s t : Nat} (ha : IsR x a s) (hb : IsR y b t) (hs : s + t ≤ 4398046400000) :
    ACall Try.prog 42 [x, y] (rat (a - b)) := by
  have sb := hb.size
  have n1 := sNeg_ok hb (by omega)
  have a1 := sAdd_ok ha (isR_rat (-b) (s := t) (by rw [rsz_neg]; exact sb)) hs
  rw [← Rat.sub_eq_add_neg] at a1
  obtain ⟨na, ga, n, ga', n', _, hga, hga', hn, hn', h1⟩ := ha
  obtain ⟨nb, gb, m, gb', m', _, hgb, hgb', hm, hm', h2⟩ := hb
  generalize mkRat (ival na (nval ga n)) (nval ga' n') = a at *
  generalize mkRat (ival nb (nval gb m)) (nval gb' m') = b at *
  refine acall_rule env [0, 1, 2, 3, 4] Try.func42 rfl rfl rfl rfl ?_
  conv => whnf
  first | refine callF n1 ⟨.refl _, trivial⟩ (by trivial) rfl ?_ | ((repeat (refine ⟨by kernel_rfl, ?_⟩; (conv => whnf))); refine callF n1 ⟨.refl _, trivial⟩ (by trivial) rfl ?_)
  conv => whnf
  first | refine callF a1 ⟨.refl _, .refl _, trivial⟩ (by trivial) rfl ?_ | ((repeat (refine ⟨by kernel_rfl, ?_⟩; (conv => whnf))); refine callF a1 ⟨.refl _, .refl _, trivial⟩ (by trivial) rfl ?_)
  conv => whnf
  (repeat (refine ⟨by kernel_rfl, ?_⟩; (conv => whnf)))
  refine ⟨(by (try simp only [true_and, and_true, Nat.sub_zero, Nat.zero_add, Int.toNat_natCast]) <;> omega), ?_⟩
  exact .refl _
theorem sMul_ok {x y : AV} {a b : Rat} {s t : Nat} (ha : IsR x a s) (hb : IsR y b t) (hs : s + t ≤ 4398046400000) :
    ACall Try.prog 43 [x, y] (rat (a * b)) := by
  have n1 := sNorm_ok ha (by omega)
  have n2 := sNorm_ok hb (by omega)
  have sa := ha.size
  have sb := hb.size
  have d1 := sDen_ok ha (by omega)
  have d2 := sDen_ok hb (by omega)
  have za := isI_int a.num (rsz_num sa)
  have zb := isI_int b.num (rsz_num sb)
  have ya := isI_int (a.den : Nat) (s := s) (by rw [isz_nat]; exact rsz_den sa)
  have yb := isI_int (b.den : Nat) (s := t) (by rw [isz_nat]; exact rsz_den sb)
  have m1 := rMul_ok za zb (by omega)
  have m3 := rMul_ok ya yb (by omega)
  have w1 := isz_mul za.size zb.size
  have w3 := isz_mul ya.size yb.size
  have mk := sMake_ok (isI_int _ w1) (isI_int _ w3) (by omega) (by omega)
  rw [show Rat.divInt (a.num * b.num) ((a.den : Nat) * (b.den : Nat)) = a * b by rw [Rat.mul_def', ← Rat.divInt_ofNat, Int.natCast_mul]] at mk
  clear za zb ya yb
  obtain ⟨na, ga, n, ga', n', _, hga, hga', hn, hn', h1⟩ := ha
  obtain ⟨nb, gb, m, gb', m', _, hgb, hgb', hm, hm', h2⟩ := hb
  generalize mkRat (ival na (nval ga n)) (nval ga' n') = a at *
  generalize mkRat (ival nb (nval gb m)) (nval gb' m') = b at *
  refine acall_rule env [0, 1, 2, 3, 4] Try.func43 rfl rfl rfl rfl ?_
  conv => whnf
  first | refine callF n1 ⟨.refl _, trivial⟩ (by trivial) rfl ?_ | ((repeat (refine ⟨by kernel_rfl, ?_⟩; (conv => whnf))); refine callF n1 ⟨.refl _, trivial⟩ (by trivial) rfl ?_)
  conv => whnf
  first | refine callF n2 ⟨.refl _, trivial⟩ (by trivial) rfl ?_ | ((repeat (refine ⟨by kernel_rfl, ?_⟩; (conv => whnf))); refine callF n2 ⟨.refl _, trivial⟩ (by trivial) rfl ?_)
  conv => whnf
  first | refine callF m1 ⟨.refl _, .refl _, trivial⟩ (by trivial) rfl ?_ | ((repeat (refine ⟨by kernel_rfl, ?_⟩; (conv => whnf))); refine callF m1 ⟨.refl _, .refl _, trivial⟩ (by trivial) rfl ?_)
  conv => whnf
  first | refine callF d1 ⟨.refl _, trivial⟩ (by trivial) rfl ?_ | ((repeat (refine ⟨by kernel_rfl, ?_⟩; (conv => whnf))); refine callF d1 ⟨.refl _, trivial⟩ (by trivial) rfl ?_)
  conv => whnf
  first | refine callF d2 ⟨.refl _, trivial⟩ (by trivial) rfl ?_ | ((repeat (refine ⟨by kernel_rfl, ?_⟩; (conv => whnf))); refine callF d2 ⟨.refl _, trivial⟩ (by trivial) rfl ?_)
  conv => whnf
  first | refine callF m3 ⟨.refl _, .refl _, trivial⟩ (by trivial) rfl ?_ | ((repeat (refine ⟨by kernel_rfl, ?_⟩; (conv => whnf))); refine callF m3 ⟨.refl _, .refl _, trivial⟩ (by trivial) rfl ?_)
  conv => whnf
  first | refine callF mk ⟨.refl _, .refl _, trivial⟩ (by trivial) rfl ?_ | ((repeat (refine ⟨by kernel_rfl, ?_⟩; (conv => whnf))); refine callF mk ⟨.refl _, .refl _, trivial⟩ (by trivial) rfl ?_)
  conv => whnf
  (repeat (refine ⟨by kernel_rfl, ?_⟩; (conv => whnf)))
  refine ⟨(by (try simp only [true_and, and_true, Nat.sub_zero, Nat.zero_add, Int.toNat_natCast]) <;> omega), ?_⟩
  exact .refl _
theorem sDiv_ok {x y : AV} {a b : Rat} {s t : Nat} (ha : IsR x a s) (hb : IsR y b t) (hs : s + t ≤ 4398046400000) :
    ACall Try.prog 39 [x, y] (qdivRes a b) := by
  have n1 := sNorm_ok ha (by omega)
  have n2 := sNorm_ok hb (by omega)
  have g := sSign_ok hb (by omega)
  have sa := ha.size
  have sb := hb.size
  have d1 := sDen_ok ha (by omega)
  have d2 := sDen_ok hb (by omega)
  have za := isI_int a.num (rsz_num sa)
  have zb := isI_int b.num (rsz_num sb)
  have ya := isI_int (a.den : Nat) (s := s) (by rw [isz_nat]; exact rsz_den sa)
  have yb := isI_int (b.den : Nat) (s := t) (by rw [isz_nat]; exact rsz_den sb)
  have m1 := rMul_ok za yb (by omega)
  have m3 := rMul_ok ya zb (by omega)
  have w1 := isz_mul za.size yb.size
  have w3 := isz_mul ya.size zb.size
  have mk := sMake_ok (isI_int _ w1) (isI_int _ w3) (by omega) (by omega)
  rw [show Rat.divInt (a.num * (b.den : Nat)) ((a.den : Nat) * b.num) = a / b by rw [Rat.div_def, Rat.inv_def, ← Rat.divInt_mul_divInt, Rat.num_divInt_den]] at mk
  clear za zb ya yb
  unfold qdivRes
  obtain ⟨na, ga, n, ga', n', _, hga, hga', hn, hn', h1⟩ := ha
  obtain ⟨nb, gb, m, gb', m', _, hgb, hgb', hm, hm', h2⟩ := hb
  generalize mkRat (ival na (nval ga n)) (nval ga' n') = a at *
  generalize mkRat (ival nb (nval gb m)) (nval gb' m') = b at *
  by_cases hb : b = 0
  · rw [if_pos hb]
    rw [hb, rcmp_self] at g
    refine acall_rule env [0, 1, 2, 3, 4, 5, 8] Try.func39 rfl rfl rfl rfl ?_
    conv => whnf
    first | refine callF g ⟨.refl _, trivial⟩ (by trivial) rfl ?_ | ((repeat (refine ⟨by kernel_rfl, ?_⟩; (conv => whnf))); refine callF g ⟨.refl _, trivial⟩ (by trivial) rfl ?_)
    conv => whnf
    refine ⟨(by (try simp only [true_and, and_true, Nat.sub_zero, Nat.zero_add, Int.toNat_natCast]) <;> omega), ?_⟩
    exact .tup ⟨.rat0, .refl _, trivial⟩
  · rw [if_neg hb]
    have hc : ¬ rcmp b 0 = 0 := fun h => hb (rcmp_zero.1 h)
    generalize rcmp b 0 = C at *
    refine acall_rule env [0, 1, 2, 3, 4, 5, 8] Try.func39 rfl rfl rfl rfl ?_
    conv => whnf
    first | refine callF g ⟨.refl _, trivial⟩ (by trivial) rfl ?_ | ((repeat (refine ⟨by kernel_rfl, ?_⟩; (conv => whnf))); refine callF g ⟨.refl _, trivial⟩ (by trivial) rfl ?_)
    conv => whnf
    refine splF (by simp only [decide_eq_true_eq, decide_eq_false_iff_not, Bool.not_eq_true', Bool.not_eq_false', gt_iff_lt, ge_iff_le] <;> omega) ?_
    conv => whnf
    first | refine callF n1 ⟨.refl _, trivial⟩ (by trivial) rfl ?_ | ((repeat (refine ⟨by kernel_rfl, ?_⟩; (conv => whnf))); refine callF n1 ⟨.refl _, trivial⟩ (by trivial) rfl ?_)
    conv => whnf
    first | refine callF d2 ⟨.refl _, trivial⟩ (by trivial) rfl ?_ | ((repeat (refine ⟨by kernel_rfl, ?_⟩; (conv => whnf))); refine callF d2 ⟨.refl _, trivial⟩ (by trivial) rfl ?_)
    conv => whnf
    first | refine callF m1 ⟨.refl _, .refl _, trivial⟩ (by trivial) rfl ?_ | ((repeat (refine ⟨by kernel_rfl, ?_⟩; (conv => whnf))); refine callF m1 ⟨.refl _, .refl _, trivial⟩ (by trivial) rfl ?_)
    conv => whnf
    first | refine callF d1 ⟨.refl _, trivial⟩ (by trivial) rfl ?_ | ((repeat (refine ⟨by kernel_rfl, ?_⟩; (conv => whnf))); refine callF d1 ⟨.refl _, trivial⟩ (by trivial) rfl ?_)
    conv => whnf
    first | refine callF n2 ⟨.refl _, trivial⟩ (by trivial) rfl ?_ | ((repeat (refine ⟨by kernel_rfl, ?_⟩; (conv => whnf))); refine callF n2 ⟨.refl _, trivial⟩ (by trivial) rfl ?_)
    conv => whnf
    first | refine callF m3 ⟨.refl _, .refl _, trivial⟩ (by trivial) rfl ?_ | ((repeat (refine ⟨by kernel_rfl, ?_⟩; (conv => whnf))); refine callF m3 ⟨.refl _, .refl _, trivial⟩ (by trivial) rfl ?_)
    conv => whnf
    first | refine callF mk ⟨.refl _, .refl _, trivial⟩ (by trivial) rfl ?_ | ((repeat (refine ⟨by kernel_rfl, ?_⟩; (conv => whnf))); refine callF mk ⟨.refl _, .refl _, trivial⟩ (by trivial) rfl ?_)
    conv => whnf
    (repeat (refine ⟨by kernel_rfl, ?_⟩; (conv => whnf)))
    refine ⟨(by (try simp only [true_and, and_true, Nat.sub_zero, Nat.zero_add, Int.toNat_natCast]) <;> omega), ?_⟩
    exact .refl _
theorem sCompare_ok {x y : AV} {a b : Rat} {s t : Nat} (ha : IsR x a s) (hb : IsR y b t) (hs : s + t ≤ 4398046300000) :
    ACall Try.prog 15 [x, y] (.f (.int .i64 (rcmp a b))) := by
  have d := sSub_ok ha hb (by omega)
  have g := sSign_ok (isR_rat (a - b) (rsz_sub ha.size hb.size)) (by omega)
  rw [rcmp_sub] at g
  obtain ⟨na, ga, n, ga', n', _, hga, hga', hn, hn', h1⟩ := ha
  obtain ⟨nb, gb, m, gb', m', _, hgb, hgb', hm, hm', h2⟩ := hb
  generalize mkRat (ival na (nval ga n)) (nval ga' n') = a at *
  generalize mkRat (ival nb (nval gb m)) (nval gb' m') = b at *
  generalize rcmp a b = C at *
  refine acall_rule env [0, 1, 2, 3, 4] Try.func15 rfl rfl rfl rfl ?_
  conv => whnf
  first | refine callF d ⟨.refl _, .refl _, trivial⟩ (by trivial) rfl ?_ | ((repeat (refine ⟨by kernel_rfl, ?_⟩; (conv => whnf))); refine callF d ⟨.refl _, .refl _, trivial⟩ (by trivial) rfl ?_)
  conv => whnf
  first | refine callF g ⟨.refl _, trivial⟩ (by trivial) rfl ?_ | ((repeat (refine ⟨by kernel_rfl, ?_⟩; (conv => whnf))); refine callF g ⟨.refl _, trivial⟩ (by trivial) rfl ?_)
  conv => whnf
  (repeat (refine ⟨by kernel_rfl, ?_⟩; (conv => whnf)))
  refine ⟨(by (try simp only [true_and, and_true, Nat.sub_zero, Nat.zero_add, Int.toNat_natCast]) <;> omega), ?_⟩
  exact .refl _
theorem sFloor_ok {x : AV} {a : Rat} {s : Nat} (ha : IsR x a s) (hs : s ≤ 4398046400000) : ACall Try.prog 29 [x] (int a.floor) := by
  have n1 := sNorm_ok ha (by omega)
  have sa := ha.size
  have d1 := sDen_ok ha (by omega)
  have q := rDivMod_ok (isI_int a.num (rsz_num sa)) (isI_int (a.den : Nat) (s := s) (by rw [isz_nat]; exact rsz_den sa)) (by omega) (by omega)
  unfold idivRes at q
  rw [if_neg (by have := a.den_nz; omega), ← Rat.floor_def] at q
  obtain ⟨na, ga, la, ga', la', _, hga, hga', hn, hn', h1⟩ := ha
  generalize mkRat (ival na (nval ga la)) (nval ga' la') = a at *
  generalize a.floor = f at *
  refine acall_rule env [0, 1, 2, 3] Try.func29 rfl rfl rfl rfl ?_
  conv => whnf
  first | refine callF n1 ⟨.refl _, trivial⟩ (by trivial) rfl ?_ | ((repeat (refine ⟨by kernel_rfl, ?_⟩; (conv => whnf))); refine callF n1 ⟨.refl _, trivial⟩ (by trivial) rfl ?_)
  conv => whnf
  first | refine callF d1 ⟨.refl _, trivial⟩ (by trivial) rfl ?_ | ((repeat (refine ⟨by kernel_rfl, ?_⟩; (conv => whnf))); refine callF d1 ⟨.refl _, trivial⟩ (by trivial) rfl ?_)
  conv => whnf
  first | refine callF q ⟨.refl _, .refl _, trivial⟩ (by trivial) rfl ?_ | ((repeat (refine ⟨by kernel_rfl, ?_⟩; (conv => whnf))); refine callF q ⟨.refl _, .refl _, trivial⟩ (by trivial) rfl ?_)
  conv => whnf
  (repeat (refine ⟨by kernel_rfl, ?_⟩; (conv => whnf)))
  refine ⟨(by (try simp only [true_and, and_true, Nat.sub_zero, Nat.zero_add, Int.toNat_natCast]) <;> omega), ?_⟩
  exact .refl _
theorem sCeil_ok {x : AV} {a : Rat} {s : Nat} (ha : IsR x a s) (hs : s ≤ 4398046400000) : ACall Try.prog 30 [x] (int a.ceil) := by
  have n1 := sNeg_ok ha (by omega)
  have sa := ha.size
  have f1 := sFloor_ok (isR_rat (-a) (s := s) (by rw [rsz_neg]; exact sa)) hs
  have n2 := rNeg_ok (isI_int (-a).floor (rsz_floor (-a) (s := s) (by rw [rsz_neg]; exact sa))) (by omega)
  rw [← Rat.ceil_eq_neg_floor_neg] at n2
  obtain ⟨na, ga, la, ga', la', _, hga, hga', hn, hn', h1⟩ := ha
  generalize mkRat (ival na (nval ga la)) (nval ga' la') = a at *
  generalize a.ceil = c at *
  generalize (-a).floor = c at *
  refine acall_rule env [0, 1, 2] Try.func30 rfl rfl rfl rfl ?_
  conv => whnf
  first | refine callF n1 ⟨.refl _, trivial⟩ (by trivial) rfl ?_ | ((repeat (refine ⟨by kernel_rfl, ?_⟩; (conv => whnf))); refine callF n1 ⟨.refl _, trivial⟩ (by trivial) rfl ?_)
  conv => whnf
  first | refine callF f1 ⟨.refl _, trivial⟩ (by trivial) rfl ?_ | ((repeat (refine ⟨by kernel_rfl, ?_⟩; (conv => whnf))); refine callF f1 ⟨.refl _, trivial⟩ (by trivial) rfl ?_)
  conv => whnf
  first | refine callF n2 ⟨.refl _, trivial⟩ (by trivial) rfl ?_ | ((repeat (refine ⟨by kernel_rfl, ?_⟩; (conv => whnf))); refine callF n2 ⟨.refl _, trivial⟩ (by trivial) rfl ?_)
  conv => whnf
  (repeat (refine ⟨by kernel_rfl, ?_⟩; (conv => whnf)))
  refine ⟨(by (try simp only [true_and, and_true, Nat.sub_zero, Nat.zero_add, Int.toNat_natCast]) <;> omega), ?_⟩
  exact .refl _
theorem sWhole_ok {x : AV} {z : Int} {s : Nat} (ha : IsI x z s) (hs : s ≤ 4398046400000) : ACall Try.prog 32 [x] (rat (z : Rat)) := by
  have o := rFromInt_ok 1 (by decide)
  have m := sMake_ok ha (isI_int 1 (s := 1) (by decide)) (by omega) (by omega)
  rw [divInt_one] at m
  obtain ⟨na, ga, n, _, hga, hn⟩ := ha
  refine acall_rule env [0, 1, 2] Try.func32 rfl rfl rfl rfl ?_
  conv => whnf
  first | refine callF o ⟨.refl _, trivial⟩ (by trivial) rfl ?_ | ((repeat (refine ⟨by kernel_rfl, ?_⟩; (conv => whnf))); refine callF o ⟨.refl _, trivial⟩ (by trivial) rfl ?_)
  conv => whnf
  first | refine callF m ⟨.refl _, .refl _, trivial⟩ (by trivial) rfl ?_ | ((repeat (refine ⟨by kernel_rfl, ?_⟩; (conv => whnf))); refine callF m ⟨.refl _, .refl _, trivial⟩ (by trivial) rfl ?_)
  conv => whnf
  (repeat (refine ⟨by kernel_rfl, ?_⟩; (conv => whnf)))
  refine ⟨(by (try simp only [true_and, and_true, Nat.sub_zero, Nat.zero_add, Int.toNat_natCast]) <;> omega), ?_⟩
  exact .refl _
theorem sSize_ok {x : AV} {a : Rat} {s : Nat} (ha : IsR x a s) (hs : s ≤ 4398046400000) : ACall Try.prog 17 [x] (.f (.int .i64 ((bitlen a.num.natAbs + bitlen a.den : Nat) : Int))) := by
  have n1 := sNorm_ok ha (by omega)
  have sa := ha.size
  have b1 := refBits_ok (digit a.num.natAbs) (size a.num.natAbs) (digit_Dig _ _) (Nat.le_trans (rsz_num sa) (by omega))
  have b2 := refBits_ok (digit a.den) (size a.den) (digit_Dig _ _) (Nat.le_trans (rsz_den sa) (by omega))
  rw [nval_digit_size] at b1 b2
  have l1 := bitlen_size_le a.num.natAbs
  have l2 := bitlen_size_le a.den
  have z1 := rsz_num sa
  have z2 := rsz_den sa
  unfold isz at z1
  rw [Int.natCast_add]
  obtain ⟨na, ga, la, ga', la', _, hga, hga', hn, hn', h1⟩ := ha
  generalize mkRat (ival na (nval ga la)) (nval ga' la') = a at *
  generalize bitlen a.num.natAbs = N1 at *
  generalize bitlen a.den = N2 at *
  refine acall_rule env [0, 1, 2] Try.func17 rfl rfl rfl rfl ?_
  conv => whnf
  first | refine callF n1 ⟨.refl _, trivial⟩ (by trivial) rfl ?_ | ((repeat (refine ⟨by kernel_rfl, ?_⟩; (conv => whnf))); refine callF n1 ⟨.refl _, trivial⟩ (by trivial) rfl ?_)
  conv => whnf
  first | refine callF b1 ⟨.refl _, trivial⟩ (by trivial) rfl ?_ | ((repeat (refine ⟨by kernel_rfl, ?_⟩; (conv => whnf))); refine callF b1 ⟨.refl _, trivial⟩ (by trivial) rfl ?_)
  conv => whnf
  first | refine callF n1 ⟨.refl _, trivial⟩ (by trivial) rfl ?_ | ((repeat (refine ⟨by kernel_rfl, ?_⟩; (conv => whnf))); refine callF n1 ⟨.refl _, trivial⟩ (by trivial) rfl ?_)
  conv => whnf
  first | refine callF b2 ⟨.refl _, trivial⟩ (by trivial) rfl ?_ | ((repeat (refine ⟨by kernel_rfl, ?_⟩; (conv => whnf))); refine callF b2 ⟨.refl _, trivial⟩ (by trivial) rfl ?_)
  conv => whnf
  refine fit64 (by omega) ?_
  conv => whnf
  (repeat (refine ⟨by kernel_rfl, ?_⟩; (conv => whnf)))
  refine ⟨(by (try simp only [true_and, and_true, Nat.sub_zero, Nat.zero_add, Int.toNat_natCast]) <;> omega), ?_⟩
  exact .refl _
theorem sRound_ok {x : AV} {a : Rat} {s : Nat} (ha : IsR x a s) (hs : s ≤ 1099511627776) : ACall Try.prog 31 [x] (int (rround a)) := by
  have f1 := sFloor_ok ha (by omega)
  have sa := ha.size
  have zf := rsz_floor a sa
  have t2 := sFromInt_ok 2 (by decide)
  have t1 := sFromInt_ok 1 (by decide)
  have i2 := rFromInt_ok 2 (by decide)
  have i1 := rFromInt_ok 1 (by decide)
  have w := sWhole_ok (isI_int a.floor zf) (by omega)
  have zw := rsz_int a.floor zf (Nat.le_trans (one_le_rsz a) sa)
  have d := sSub_ok ha (isR_rat _ zw) (by omega)
  have zd := rsz_sub sa zw
  have r2 : rsz ((2 : Int) : Rat) ≤ 1 := by decide
  have r1 : rsz ((1 : Int) : Rat) ≤ 1 := by decide
  have m := sMul_ok (isR_rat _ r2) (isR_rat _ zd) (by omega)
  have zm := rsz_mul r2 zd
  have c := sCompare_ok (isR_rat _ zm) (isR_rat _ r1) (by omega)
  have q := rDivMod_ok (isI_int a.floor zf) (isI_int 2 (s := 1) (by decide)) (by omega) (by omega)
  unfold idivRes at q
  rw [if_neg (by decide)] at q
  have zo := Nat.le_trans (isz_emod a.floor 2 (by decide)) (show isz 2 ≤ 1 by decide)
  have g := rSign_ok (isI_int _ zo) (by omega)
  have up := rAdd_ok (isI_int a.floor zf) (isI_int 1 (s := 1) (by decide)) (by omega) (by omega)
  unfold rround
  rw [show ((2 : Int) : Rat) = 2 from rfl, show ((1 : Int) : Rat) = 1 from rfl] at *
  have hC : ∀ p : Prop, p → p := fun _ h => h
  have hg : 0 < sgn (a.floor % 2) ↔ a.floor % 2 = 1 := by
    unfold sgn; repeat' split
    all_goals omega
  obtain ⟨na, ga, la, ga', la', _, hga, hga', hn, hn', h1⟩ := ha
  generalize mkRat (ival na (nval ga la)) (nval ga' la') = a at *
  generalize a.floor = f at *
  generalize rcmp (2 * (a - (f : Rat))) 1 = C at *
  generalize sgn (f % 2) = G at *
  obtain ⟨o, ho⟩ : ∃ o, f % 2 = o := ⟨_, rfl⟩
  rw [ho] at q g
  by_cases hup : 0 < C ∨ C = 0 ∧ f % 2 = 1
  · rw [if_pos hup]
    refine acall_rule env [0, 1, 2, 3, 4, 6, 8, 37] Try.func31 rfl rfl rfl rfl ?_
    conv => whnf
    first | refine callF f1 ⟨.refl _, trivial⟩ (by trivial) rfl ?_ | ((repeat (refine ⟨by kernel_rfl, ?_⟩; (conv => whnf))); refine callF f1 ⟨.refl _, trivial⟩ (by trivial) rfl ?_)
    conv => whnf
    first | refine callF t2 ⟨.refl _, trivial⟩ (by trivial) rfl ?_ | ((repeat (refine ⟨by kernel_rfl, ?_⟩; (conv => whnf))); refine callF t2 ⟨.refl _, trivial⟩ (by trivial) rfl ?_)
    conv => whnf
    first | refine callF w ⟨.refl _, trivial⟩ (by trivial) rfl ?_ | ((repeat (refine ⟨by kernel_rfl, ?_⟩; (conv => whnf))); refine callF w ⟨.refl _, trivial⟩ (by trivial) rfl ?_)
    conv => whnf
    first | refine callF d ⟨.refl _, .refl _, trivial⟩ (by trivial) rfl ?_ | ((repeat (refine ⟨by kernel_rfl, ?_⟩; (conv => whnf))); refine callF d ⟨.refl _, .refl _, trivial⟩ (by trivial) rfl ?_)
    conv => whnf
    first | refine callF m ⟨.refl _, .refl _, trivial⟩ (by trivial) rfl ?_ | ((repeat (refine ⟨by kernel_rfl, ?_⟩; (conv => whnf))); refine callF m ⟨.refl _, .refl _, trivial⟩ (by trivial) rfl ?_)
    conv => whnf
    first | refine callF i2 ⟨.refl _, trivial⟩ (by trivial) rfl ?_ | ((repeat (refine ⟨by kernel_rfl, ?_⟩; (conv => whnf))); refine callF i2 ⟨.refl _, trivial⟩ (by trivial) rfl ?_)
    conv => whnf
    first | refine callF q ⟨.refl _, .refl _, trivial⟩ (by trivial) rfl ?_ | ((repeat (refine ⟨by kernel_rfl, ?_⟩; (conv => whnf))); refine callF q ⟨.refl _, .refl _, trivial⟩ (by trivial) rfl ?_)
    conv => whnf
    first | refine callF t1 ⟨.refl _, trivial⟩ (by trivial) rfl ?_ | ((repeat (refine ⟨by kernel_rfl, ?_⟩; (conv => whnf))); refine callF t1 ⟨.refl _, trivial⟩ (by trivial) rfl ?_)
    conv => whnf
    first | refine callF c ⟨.refl _, .refl _, trivial⟩ (by trivial) rfl ?_ | ((repeat (refine ⟨by kernel_rfl, ?_⟩; (conv => whnf))); refine callF c ⟨.refl _, .refl _, trivial⟩ (by trivial) rfl ?_)
    conv => whnf
    refine ⟨by kernel_rfl, ?_⟩
    conv => whnf
    refine spl (fun h4 => ?_) (fun h4 => ?_) <;> simp only [decide_eq_true_eq, decide_eq_false_iff_not, Bool.not_eq_true', Bool.not_eq_false', gt_iff_lt, ge_iff_le] at h4
    · conv => whnf
      first | refine callF i1 ⟨.refl _, trivial⟩ (by trivial) rfl ?_ | ((repeat (refine ⟨by kernel_rfl, ?_⟩; (conv => whnf))); refine callF i1 ⟨.refl _, trivial⟩ (by trivial) rfl ?_)
      conv => whnf
      first | refine callF up ⟨.refl _, .refl _, trivial⟩ (by trivial) rfl ?_ | ((repeat (refine ⟨by kernel_rfl, ?_⟩; (conv => whnf))); refine callF up ⟨.refl _, .refl _, trivial⟩ (by trivial) rfl ?_)
      conv => whnf
      (repeat (refine ⟨by kernel_rfl, ?_⟩; (conv => whnf)))
      refine ⟨(by (try simp only [true_and, and_true, Nat.sub_zero, Nat.zero_add, Int.toNat_natCast]) <;> omega), ?_⟩
      exact .refl _
    · conv => whnf
      refine splT (by simp only [decide_eq_true_eq, decide_eq_false_iff_not, Bool.not_eq_true', Bool.not_eq_false', gt_iff_lt, ge_iff_le] <;> omega) ?_
      conv => whnf
      first | refine callF g ⟨.refl _, trivial⟩ (by trivial) rfl ?_ | ((repeat (refine ⟨by kernel_rfl, ?_⟩; (conv => whnf))); refine callF g ⟨.refl _, trivial⟩ (by trivial) rfl ?_)
      conv => whnf
      refine splT (by simp only [decide_eq_true_eq, decide_eq_false_iff_not, Bool.not_eq_true', Bool.not_eq_false', gt_iff_lt, ge_iff_le] <;> omega) ?_
      conv => whnf
      first | refine callF i1 ⟨.refl _, trivial⟩ (by trivial) rfl ?_ | ((repeat (refine ⟨by kernel_rfl, ?_⟩; (conv => whnf))); refine callF i1 ⟨.refl _, trivial⟩ (by trivial) rfl ?_)
      conv => whnf
      first | refine callF up ⟨.refl _, .refl _, trivial⟩ (by trivial) rfl ?_ | ((repeat (refine ⟨by kernel_rfl, ?_⟩; (conv => whnf))); refine callF up ⟨.refl _, .refl _, trivial⟩ (by trivial) rfl ?_)
      conv => whnf
      (repeat (refine ⟨by kernel_rfl, ?_⟩; (conv => whnf)))
      refine ⟨(by (try simp only [true_and, and_true, Nat.sub_zero, Nat.zero_add, Int.toNat_natCast]) <;> omega), ?_⟩
      exact .refl _
  · rw [if_neg hup]
    refine acall_rule env [0, 1, 2, 3, 4, 6, 8, 37] Try.func31 rfl rfl rfl rfl ?_
    conv => whnf
    first | refine callF f1 ⟨.refl _, trivial⟩ (by trivial) rfl ?_ | ((repeat (refine ⟨by kernel_rfl, ?_⟩; (conv => whnf))); refine callF f1 ⟨.refl _, trivial⟩ (by trivial) rfl ?_)
    conv => whnf
    first | refine callF t2 ⟨.refl _, trivial⟩ (by trivial) rfl ?_ | ((repeat (refine ⟨by kernel_rfl, ?_⟩; (conv => whnf))); refine callF t2 ⟨.refl _, trivial⟩ (by trivial) rfl ?_)
    conv => whnf
    first | refine callF w ⟨.refl _, trivial⟩ (by trivial) rfl ?_ | ((repeat (refine ⟨by kernel_rfl, ?_⟩; (conv => whnf))); refine callF w ⟨.refl _, trivial⟩ (by trivial) rfl ?_)
    conv => whnf
    first | refine callF d ⟨.refl _, .refl _, trivial⟩ (by trivial) rfl ?_ | ((repeat (refine ⟨by kernel_rfl, ?_⟩; (conv => whnf))); refine callF d ⟨.refl _, .refl _, trivial⟩ (by trivial) rfl ?_)
    conv => whnf
    first | refine callF m ⟨.refl _, .refl _, trivial⟩ (by trivial) rfl ?_ | ((repeat (refine ⟨by kernel_rfl, ?_⟩; (conv => whnf))); refine callF m ⟨.refl _, .refl _, trivial⟩ (by trivial) rfl ?_)
    conv => whnf
    first | refine callF i2 ⟨.refl _, trivial⟩ (by trivial) rfl ?_ | ((repeat (refine ⟨by kernel_rfl, ?_⟩; (conv => whnf))); refine callF i2 ⟨.refl _, trivial⟩ (by trivial) rfl ?_)
    conv => whnf
    first | refine callF q ⟨.refl _, .refl _, trivial⟩ (by trivial) rfl ?_ | ((repeat (refine ⟨by kernel_rfl, ?_⟩; (conv => whnf))); refine callF q ⟨.refl _, .refl _, trivial⟩ (by trivial) rfl ?_)
    conv => whnf
    first | refine callF t1 ⟨.refl _, trivial⟩ (by trivial) rfl ?_ | ((repeat (refine ⟨by kernel_rfl, ?_⟩; (conv => whnf))); refine callF t1 ⟨.refl _, trivial⟩ (by trivial) rfl ?_)
    conv => whnf
    first | refine callF c ⟨.refl _, .refl _, trivial⟩ (by trivial) rfl ?_ | ((repeat (refine ⟨by kernel_rfl, ?_⟩; (conv => whnf))); refine callF c ⟨.refl _, .refl _, trivial⟩ (by trivial) rfl ?_)
    conv => whnf
    refine ⟨by kernel_rfl, ?_⟩
    conv => whnf
    refine splF (by simp only [decide_eq_true_eq, decide_eq_false_iff_not, Bool.not_eq_true', Bool.not_eq_false', gt_iff_lt, ge_iff_le] <;> omega) ?_
    conv => whnf
    refine spl (fun h4 => ?_) (fun h4 => ?_) <;> simp only [decide_eq_true_eq, decide_eq_false_iff_not, Bool.not_eq_true', Bool.not_eq_false', gt_iff_lt, ge_iff_le] at h4
    · conv => whnf
      first | refine callF g ⟨.refl _, trivial⟩ (by trivial) rfl ?_ | ((repeat (refine ⟨by kernel_rfl, ?_⟩; (conv => whnf))); refine callF g ⟨.refl _, trivial⟩ (by trivial) rfl ?_)
      conv => whnf
      refine splF (by simp only [decide_eq_true_eq, decide_eq_false_iff_not, Bool.not_eq_true', Bool.not_eq_false', gt_iff_lt, ge_iff_le] <;> omega) ?_
      conv => whnf
      (repeat (refine ⟨by kernel_rfl, ?_⟩; (conv => whnf)))
      refine ⟨(by (try simp only [true_and, and_true, Nat.sub_zero, Nat.zero_add, Int.toNat_natCast]) <;> omega), ?_⟩
      exact .refl _
    · conv => whnf
      (repeat (refine ⟨by kernel_rfl, ?_⟩; (conv => whnf)))
      refine ⟨(by (try simp only [true_and, and_true, Nat.sub_zero, Nat.zero_add, Int.toNat_natCast]) <;> omega), ?_⟩
      exact .refl _
end Go.Abs

/- The laws of rational numbers, as contracts. -/
set_option autoImplicit false
set_option maxHeartbeats 4000000
set_option maxRecDepth 10000
set_option linter.unusedVariables false
set_option linter.unusedSimpArgs false
namespace Go.Abs
open Go Go.Proofs

theorem AVle.nat_lit {at_ : Nat → List FV} {c : Option Nat} (d : Nat) (h0 : 0 < d) (hd : d < 4294967296) (h : at_ 0 = [.int .u32 d]) : AVle (.f (.sl 1 at_ 1 c)) (nat d) := by
  have hs : size d = 1 := by
    have h1 := size_pos (N := d) (by omega)
    have h2 : size d ≤ 1 := size_le (by rw [show pw 1 = 4294967296 from rfl]; exact hd)
    omega
  have : nat d = .f (.sl 1 (fun j => [.int .u32 (digit d j : Nat)]) 1 none) := by unfold nat; rw [hs]
  rw [this]
  refine .f (.sl (fun i hi => ?_) (.inl rfl))
  obtain rfl : i = 0 := by omega
  rw [h, show digit d 0 = d by unfold digit; rw [pw_zero, Nat.div_one, Nat.mod_eq_of_lt hd]]
  exact ⟨.refl _, trivial⟩

theorem awake3_ok : ACall Try.prog 12 [] (.f (.bool true)) := by
  have o1 := sOf_ok 1 6 (by decide) (by decide)
  have f1 := rFromInt_ok 3 (by decide)
  have r1 : rsz (Rat.divInt 1 6) ≤ 1 := by decide +kernel
  have hx : IsR (.agg [.f (.bool false), nat 3, nat 9]) (mkRat 3 9) 1 := by
    have := IsR.mk false (digit 3) (size 3) (digit 9) (size 9) 1 (digit_Dig _ _) (digit_Dig _ _) (by decide) (by decide) (by decide)
    rw [nval_digit_size, nval_digit_size] at this; exact this
  have a1 := qAdd_ok (isR_rat _ r1) hx (by omega)
  have e : Rat.divInt 1 6 + mkRat 3 9 = Rat.divInt 1 2 := by decide +kernel
  rw [e] at a1
  have o2 := sOf_ok 1 2 (by decide) (by decide)
  have q1 := sEqual_same (Rat.divInt 1 2) (Nat.le_trans (show rsz (Rat.divInt 1 2) ≤ 1 by decide +kernel) (by omega))
  have o3 := sOf_ok 5 2 (by decide) (by decide)
  have r3 : rsz (Rat.divInt 5 2) ≤ 1 := by decide +kernel
  have d3 := qRound_ok (isR_rat _ r3) (by omega)
  rw [show rround (Rat.divInt 5 2) = 2 by decide +kernel] at d3
  have i3 := rFromInt_ok 2 (by decide)
  have q3 := rEqual_same 2 (by decide)
  have o4 := sOf_ok (-7) 2 (by decide) (by decide)
  have r4 : rsz (Rat.divInt (-7) 2) ≤ 1 := by decide +kernel
  have d4 := qRound_ok (isR_rat _ r4) (by omega)
  rw [show rround (Rat.divInt (-7) 2) = -4 by decide +kernel] at d4
  have i4 := rFromInt_ok (-4) (by decide)
  have q4 := rEqual_same (-4) (by decide)
  have o5 := sOf_ok (-1) 3 (by decide) (by decide)
  have r5 : rsz (Rat.divInt (-1) 3) ≤ 1 := by decide +kernel
  have d5 := qFloor_ok (isR_rat _ r5) (by omega)
  rw [show (Rat.divInt (-1) 3).floor = -1 by decide +kernel] at d5
  have i5 := rFromInt_ok (-1) (by decide)
  have q5 := rEqual_same (-1) (by decide)
  have h0 : IsR rat0 0 1 := by
    have := IsR.mk false (digit 0) (size 0) (digit 0) (size 0) 1 (digit_Dig _ _) (digit_Dig _ _) (by decide) (by decide) (by decide)
    rw [nval_digit_size, Rat.mkRat_zero] at this; exact this
  have s6 := qSize_ok h0 (by omega)
  rw [show ((bitlen (0 : Rat).num.natAbs + bitlen (0 : Rat).den : Nat) : Int) = 1 by decide +kernel] at s6
  refine acall_rule env [0] Try.func12 rfl rfl rfl rfl ?_
  conv => whnf
  first | refine callF o1 ⟨.refl _, .refl _, trivial⟩ (by trivial) rfl ?_ | ((repeat (refine ⟨by kernel_rfl, ?_⟩; (conv => whnf))); refine callF o1 ⟨.refl _, .refl _, trivial⟩ (by trivial) rfl ?_)
  conv => whnf
  first | refine callF f1 ⟨.refl _, trivial⟩ (by trivial) rfl ?_ | ((repeat (refine ⟨by kernel_rfl, ?_⟩; (conv => whnf))); refine callF f1 ⟨.refl _, trivial⟩ (by trivial) rfl ?_)
  conv => whnf
  refine callF a1 ⟨.refl _, .agg ⟨.refl _, .refl _, .nat_lit 9 (by decide) (by decide) rfl, trivial⟩, trivial⟩ ?_ rfl ?_
  conv => whnf
  · decide
  first | refine callF o2 ⟨.refl _, .refl _, trivial⟩ (by trivial) rfl ?_ | ((repeat (refine ⟨by kernel_rfl, ?_⟩; (conv => whnf))); refine callF o2 ⟨.refl _, .refl _, trivial⟩ (by trivial) rfl ?_)
  conv => whnf
  first | refine callF q1 ⟨.refl _, .refl _, trivial⟩ (by trivial) rfl ?_ | ((repeat (refine ⟨by kernel_rfl, ?_⟩; (conv => whnf))); refine callF q1 ⟨.refl _, .refl _, trivial⟩ (by trivial) rfl ?_)
  conv => whnf
  first | refine callF o3 ⟨.refl _, .refl _, trivial⟩ (by trivial) rfl ?_ | ((repeat (refine ⟨by kernel_rfl, ?_⟩; (conv => whnf))); refine callF o3 ⟨.refl _, .refl _, trivial⟩ (by trivial) rfl ?_)
  conv => whnf
  first | refine callF d3 ⟨.refl _, trivial⟩ (by trivial) rfl ?_ | ((repeat (refine ⟨by kernel_rfl, ?_⟩; (conv => whnf))); refine callF d3 ⟨.refl _, trivial⟩ (by trivial) rfl ?_)
  conv => whnf
  first | refine callF i3 ⟨.refl _, trivial⟩ (by trivial) rfl ?_ | ((repeat (refine ⟨by kernel_rfl, ?_⟩; (conv => whnf))); refine callF i3 ⟨.refl _, trivial⟩ (by trivial) rfl ?_)
  conv => whnf
  first | refine callF q3 ⟨.refl _, .refl _, trivial⟩ (by trivial) rfl ?_ | ((repeat (refine ⟨by kernel_rfl, ?_⟩; (conv => whnf))); refine callF q3 ⟨.refl _, .refl _, trivial⟩ (by trivial) rfl ?_)
  conv => whnf
  first | refine callF o4 ⟨.refl _, .refl _, trivial⟩ (by trivial) rfl ?_ | ((repeat (refine ⟨by kernel_rfl, ?_⟩; (conv => whnf))); refine callF o4 ⟨.refl _, .refl _, trivial⟩ (by trivial) rfl ?_)
  conv => whnf
  first | refine callF d4 ⟨.refl _, trivial⟩ (by trivial) rfl ?_ | ((repeat (refine ⟨by kernel_rfl, ?_⟩; (conv => whnf))); refine callF d4 ⟨.refl _, trivial⟩ (by trivial) rfl ?_)
  conv => whnf
  first | refine callF i4 ⟨.refl _, trivial⟩ (by trivial) rfl ?_ | ((repeat (refine ⟨by kernel_rfl, ?_⟩; (conv => whnf))); refine callF i4 ⟨.refl _, trivial⟩ (by trivial) rfl ?_)
  conv => whnf
  first | refine callF q4 ⟨.refl _, .refl _, trivial⟩ (by trivial) rfl ?_ | ((repeat (refine ⟨by kernel_rfl, ?_⟩; (conv => whnf))); refine callF q4 ⟨.refl _, .refl _, trivial⟩ (by trivial) rfl ?_)
  conv => whnf
  first | refine callF o5 ⟨.refl _, .refl _, trivial⟩ (by trivial) rfl ?_ | ((repeat (refine ⟨by kernel_rfl, ?_⟩; (conv => whnf))); refine callF o5 ⟨.refl _, .refl _, trivial⟩ (by trivial) rfl ?_)
  conv => whnf
  first | refine callF d5 ⟨.refl _, trivial⟩ (by trivial) rfl ?_ | ((repeat (refine ⟨by kernel_rfl, ?_⟩; (conv => whnf))); refine callF d5 ⟨.refl _, trivial⟩ (by trivial) rfl ?_)
  conv => whnf
  first | refine callF i5 ⟨.refl _, trivial⟩ (by trivial) rfl ?_ | ((repeat (refine ⟨by kernel_rfl, ?_⟩; (conv => whnf))); refine callF i5 ⟨.refl _, trivial⟩ (by trivial) rfl ?_)
  conv => whnf
  first | refine callF q5 ⟨.refl _, .refl _, trivial⟩ (by trivial) rfl ?_ | ((repeat (refine ⟨by kernel_rfl, ?_⟩; (conv => whnf))); refine callF q5 ⟨.refl _, .refl _, trivial⟩ (by trivial) rfl ?_)
  conv => whnf
  refine callF s6 ⟨.rat0, trivial⟩ (by trivial) rfl ?_
  conv => whnf
  (repeat (refine ⟨by kernel_rfl, ?_⟩; (conv => whnf)))
  refine ⟨(by (try simp only [true_and, and_true, Nat.sub_zero, Nat.zero_add, Int.toNat_natCast]) <;> omega), ?_⟩
  exact .refl _
end Go.Abs

/- The laws of rational numbers, as contracts. -/
set_option autoImplicit false
set_option maxHeartbeats 4000000
set_option maxRecDepth 10000
set_option linter.unusedVariables false
set_option linter.unusedSimpArgs false
namespace Go.Abs
open Go Go.Proofs


theorem RationalCanonical_ok {x y : AV} {a b : Rat} {s t : Nat} (ha : IsR x a s) (hb : IsR y b t) (hs : s ≤ 1099511627776) (ht : t ≤ 1099511627776) :
    ACall Try.prog 3 [x, y] (.f (.bool true)) := by
  have za := ha.size
  have zb := hb.size
  have n1 := qNorm_ok ha (by omega)
  have n2 := qNorm_ok hb (by omega)
  have n3 := qNorm_ok (isR_rat a za) (by omega)
  have c1 := sCanonical_rat a (by omega)
  have e1 := sEqual_ok a b (by omega)
  have k1 := sCompare_ok ha hb (by omega)
  have e2 := sEqual_same a (by omega)
  have h : a = b ↔ rcmp a b = 0 := rcmp_zero.symm
  obtain ⟨na, ga, la, ga', la', _, hga, hga', hna, hna', h1⟩ := ha
  generalize mkRat (ival na (nval ga la)) (nval ga' la') = a at *
  obtain ⟨nb, gb, lb, gb', lb', _, hgb, hgb', hnb, hnb', h2⟩ := hb
  generalize mkRat (ival nb (nval gb lb)) (nval gb' lb') = b at *
  by_cases hc : a = b
  · rw [decide_eq_true hc] at e1
    rw [h.1 hc] at k1
    refine acall_rule env [0, 1, 2, 3, 4, 5, 6] Try.func3 rfl rfl rfl rfl ?_
    conv => whnf
    first | refine callF n1 ⟨.refl _, trivial⟩ (by trivial) rfl ?_ | ((repeat (refine ⟨by kernel_rfl, ?_⟩; (conv => whnf))); refine callF n1 ⟨.refl _, trivial⟩ (by trivial) rfl ?_)
    conv => whnf
    first | refine callF n2 ⟨.refl _, trivial⟩ (by trivial) rfl ?_ | ((repeat (refine ⟨by kernel_rfl, ?_⟩; (conv => whnf))); refine callF n2 ⟨.refl _, trivial⟩ (by trivial) rfl ?_)
    conv => whnf
    first | refine callF awake3_ok trivial (by trivial) rfl ?_ | ((repeat (refine ⟨by kernel_rfl, ?_⟩; (conv => whnf))); refine callF awake3_ok trivial (by trivial) rfl ?_)
    conv => whnf
    first | refine callF c1 ⟨.refl _, trivial⟩ (by trivial) rfl ?_ | ((repeat (refine ⟨by kernel_rfl, ?_⟩; (conv => whnf))); refine callF c1 ⟨.refl _, trivial⟩ (by trivial) rfl ?_)
    conv => whnf
    first | refine callF e1 ⟨.refl _, .refl _, trivial⟩ (by trivial) rfl ?_ | ((repeat (refine ⟨by kernel_rfl, ?_⟩; (conv => whnf))); refine callF e1 ⟨.refl _, .refl _, trivial⟩ (by trivial) rfl ?_)
    conv => whnf
    first | refine callF k1 ⟨.refl _, .refl _, trivial⟩ (by trivial) rfl ?_ | ((repeat (refine ⟨by kernel_rfl, ?_⟩; (conv => whnf))); refine callF k1 ⟨.refl _, .refl _, trivial⟩ (by trivial) rfl ?_)
    conv => whnf
    first | refine callF n3 ⟨.refl _, trivial⟩ (by trivial) rfl ?_ | ((repeat (refine ⟨by kernel_rfl, ?_⟩; (conv => whnf))); refine callF n3 ⟨.refl _, trivial⟩ (by trivial) rfl ?_)
    conv => whnf
    first | refine callF e2 ⟨.refl _, .refl _, trivial⟩ (by trivial) rfl ?_ | ((repeat (refine ⟨by kernel_rfl, ?_⟩; (conv => whnf))); refine callF e2 ⟨.refl _, .refl _, trivial⟩ (by trivial) rfl ?_)
    conv => whnf
    (repeat (refine ⟨by kernel_rfl, ?_⟩; (conv => whnf)))
    refine ⟨(by (try simp only [true_and, and_true, Nat.sub_zero, Nat.zero_add, Int.toNat_natCast]) <;> omega), ?_⟩
    exact .refl _
  · rw [decide_eq_false hc] at e1
    have hC : ¬ rcmp a b = 0 := fun h' => hc (h.2 h')
    generalize rcmp a b = C at *
    refine acall_rule env [0, 1, 2, 3, 4, 5, 6] Try.func3 rfl rfl rfl rfl ?_
    conv => whnf
    first | refine callF n1 ⟨.refl _, trivial⟩ (by trivial) rfl ?_ | ((repeat (refine ⟨by kernel_rfl, ?_⟩; (conv => whnf))); refine callF n1 ⟨.refl _, trivial⟩ (by trivial) rfl ?_)
    conv => whnf
    first | refine callF n2 ⟨.refl _, trivial⟩ (by trivial) rfl ?_ | ((repeat (refine ⟨by kernel_rfl, ?_⟩; (conv => whnf))); refine callF n2 ⟨.refl _, trivial⟩ (by trivial) rfl ?_)
    conv => whnf
    first | refine callF awake3_ok trivial (by trivial) rfl ?_ | ((repeat (refine ⟨by kernel_rfl, ?_⟩; (conv => whnf))); refine callF awake3_ok trivial (by trivial) rfl ?_)
    conv => whnf
    first | refine callF c1 ⟨.refl _, trivial⟩ (by trivial) rfl ?_ | ((repeat (refine ⟨by kernel_rfl, ?_⟩; (conv => whnf))); refine callF c1 ⟨.refl _, trivial⟩ (by trivial) rfl ?_)
    conv => whnf
    first | refine callF e1 ⟨.refl _, .refl _, trivial⟩ (by trivial) rfl ?_ | ((repeat (refine ⟨by kernel_rfl, ?_⟩; (conv => whnf))); refine callF e1 ⟨.refl _, .refl _, trivial⟩ (by trivial) rfl ?_)
    conv => whnf
    first | refine callF k1 ⟨.refl _, .refl _, trivial⟩ (by trivial) rfl ?_ | ((repeat (refine ⟨by kernel_rfl, ?_⟩; (conv => whnf))); refine callF k1 ⟨.refl _, .refl _, trivial⟩ (by trivial) rfl ?_)
    conv => whnf
    refine splT (by rw [decide_eq_false hC]; rfl) ?_
    conv => whnf
    first | refine callF n3 ⟨.refl _, trivial⟩ (by trivial) rfl ?_ | ((repeat (refine ⟨by kernel_rfl, ?_⟩; (conv => whnf))); refine callF n3 ⟨.refl _, trivial⟩ (by trivial) rfl ?_)
    conv => whnf
    first | refine callF e2 ⟨.refl _, .refl _, trivial⟩ (by trivial) rfl ?_ | ((repeat (refine ⟨by kernel_rfl, ?_⟩; (conv => whnf))); refine callF e2 ⟨.refl _, .refl _, trivial⟩ (by trivial) rfl ?_)
    conv => whnf
    (repeat (refine ⟨by kernel_rfl, ?_⟩; (conv => whnf)))
    refine ⟨(by (try simp only [true_and, and_true, Nat.sub_zero, Nat.zero_add, Int.toNat_natCast]) <;> omega), ?_⟩
    exact .refl _

theorem lt_pow_bitlen (N : Nat) : N < 2 ^ bitlen N := by
  unfold bitlen
  split
  · rename_i h; subst h; decide
  · exact Nat.lt_log2_self
theorem bitlen_mul (M N : Nat) : bitlen (M * N) ≤ bitlen M + bitlen N := by
  refine bitlen_le ?_
  rw [Nat.pow_add]
  have h1 := lt_pow_bitlen M
  have h2 := lt_pow_bitlen N
  rcases Nat.eq_zero_or_pos N with h | h
  · subst h; rw [Nat.mul_zero]; exact Nat.mul_pos (Nat.pow_pos (by decide)) (Nat.pow_pos (by decide))
  · exact Nat.mul_lt_mul_of_lt_of_le h1 (Nat.le_of_lt h2) (Nat.pow_pos (by decide))
theorem bitlen_mono {M N : Nat} (h : M ≤ N) : bitlen M ≤ bitlen N := bitlen_le (Nat.lt_of_le_of_lt h (lt_pow_bitlen N))
theorem bits_mul (a b : Rat) : bitlen (a * b).num.natAbs + bitlen (a * b).den ≤ (bitlen a.num.natAbs + bitlen a.den) + (bitlen b.num.natAbs + bitlen b.den) := by
  have hD : a.den * b.den ≠ 0 := Nat.mul_ne_zero a.den_nz b.den_nz
  have h1 : (a * b).num.natAbs ≤ a.num.natAbs * b.num.natAbs := by
    rw [Rat.mul_def', mk_num_abs _ hD, Int.natAbs_mul]; exact Nat.div_le_self _ _
  have h2 : (a * b).den ≤ a.den * b.den := by
    rw [Rat.mul_def', mk_den _ hD]; exact Nat.div_le_self _ _
  have h3 := Nat.le_trans (bitlen_mono h1) (bitlen_mul _ _)
  have h4 := Nat.le_trans (bitlen_mono h2) (bitlen_mul _ _)
  omega

theorem RationalSizes_ok {x y : AV} {a b : Rat} {s t : Nat} (ha : IsR x a s) (hb : IsR y b t) (hs : s ≤ 1099511627776) (ht : t ≤ 1099511627776) :
    ACall Try.prog 4 [x, y] (.f (.bool true)) := by
  have za := ha.size
  have zb := hb.size
  have s1 := qSize_ok ha (by omega)
  have s2 := sSize_ok ha (by omega)
  have m := qMul_ok ha hb (by omega)
  have zm := rsz_mul za zb
  have s3 := qSize_ok (isR_rat _ zm) (by omega)
  have s4 := qSize_ok hb (by omega)
  have hm := bits_mul a b
  have l1 := bitlen_size_le a.num.natAbs
  have l2 := bitlen_size_le a.den
  have l3 := bitlen_size_le b.num.natAbs
  have l4 := bitlen_size_le b.den
  have z1 := rsz_num za
  have z2 := rsz_den za
  have z3 := rsz_num zb
  have z4 := rsz_den zb
  unfold isz at z1 z3
  obtain ⟨na, ga, la, ga', la', _, hga, hga', hna, hna', h1⟩ := ha
  generalize mkRat (ival na (nval ga la)) (nval ga' la') = a at *
  obtain ⟨nb, gb, lb, gb', lb', _, hgb, hgb', hnb, hnb', h2⟩ := hb
  generalize mkRat (ival nb (nval gb lb)) (nval gb' lb') = b at *
  obtain ⟨A, hA⟩ : ∃ A, bitlen a.num.natAbs + bitlen a.den = A := ⟨_, rfl⟩
  obtain ⟨B, hB⟩ : ∃ B, bitlen b.num.natAbs + bitlen b.den = B := ⟨_, rfl⟩
  obtain ⟨M, hM⟩ : ∃ M, bitlen (a * b).num.natAbs + bitlen (a * b).den = M := ⟨_, rfl⟩
  rw [hA] at s1 s2 hm
  rw [hB] at s4 hm
  rw [hM] at s3 hm
  refine acall_rule env [0, 1, 2, 3, 4] Try.func4 rfl rfl rfl rfl ?_
  conv => whnf
  first | refine callF awake3_ok trivial (by trivial) rfl ?_ | ((repeat (refine ⟨by kernel_rfl, ?_⟩; (conv => whnf))); refine callF awake3_ok trivial (by trivial) rfl ?_)
  conv => whnf
  first | refine callF s1 ⟨.refl _, trivial⟩ (by trivial) rfl ?_ | ((repeat (refine ⟨by kernel_rfl, ?_⟩; (conv => whnf))); refine callF s1 ⟨.refl _, trivial⟩ (by trivial) rfl ?_)
  conv => whnf
  first | refine callF s2 ⟨.refl _, trivial⟩ (by trivial) rfl ?_ | ((repeat (refine ⟨by kernel_rfl, ?_⟩; (conv => whnf))); refine callF s2 ⟨.refl _, trivial⟩ (by trivial) rfl ?_)
  conv => whnf
  refine splT (by simp only [decide_eq_true_eq, decide_eq_false_iff_not, Bool.not_eq_true', Bool.not_eq_false', gt_iff_lt, ge_iff_le] <;> omega) ?_
  conv => whnf
  first | refine callF m ⟨.refl _, .refl _, trivial⟩ (by trivial) rfl ?_ | ((repeat (refine ⟨by kernel_rfl, ?_⟩; (conv => whnf))); refine callF m ⟨.refl _, .refl _, trivial⟩ (by trivial) rfl ?_)
  conv => whnf
  first | refine callF s3 ⟨.refl _, trivial⟩ (by trivial) rfl ?_ | ((repeat (refine ⟨by kernel_rfl, ?_⟩; (conv => whnf))); refine callF s3 ⟨.refl _, trivial⟩ (by trivial) rfl ?_)
  conv => whnf
  first | refine callF s1 ⟨.refl _, trivial⟩ (by trivial) rfl ?_ | ((repeat (refine ⟨by kernel_rfl, ?_⟩; (conv => whnf))); refine callF s1 ⟨.refl _, trivial⟩ (by trivial) rfl ?_)
  conv => whnf
  first | refine callF s4 ⟨.refl _, trivial⟩ (by trivial) rfl ?_ | ((repeat (refine ⟨by kernel_rfl, ?_⟩; (conv => whnf))); refine callF s4 ⟨.refl _, trivial⟩ (by trivial) rfl ?_)
  conv => whnf
  refine fit64 (by omega) ?_
  conv => whnf
  (repeat (refine ⟨by kernel_rfl, ?_⟩; (conv => whnf)))
  refine ⟨(by (try simp only [true_and, and_true, Nat.sub_zero, Nat.zero_add, Int.toNat_natCast]) <;> omega), ?_⟩
  exact .bool_of (decide_eq_true (by omega))

theorem RationalOrder_ok {x y w : AV} {a b c : Rat} {s t u : Nat} (ha : IsR x a s) (hb : IsR y b t) (hc : IsR w c u) (hs : s ≤ 1048576) (ht : t ≤ 1048576) (hu : u ≤ 1048576) :
    ACall Try.prog 6 [x, y, w] (.f (.bool true)) := by
  have za := ha.size
  have zb := hb.size
  have zc := hc.size
  have c1 := qCompare_ok ha hb (by omega)
  have c2 := qCompare_ok hb ha (by omega)
  rw [rcmp_neg a b] at c2
  have a1 := qAdd_ok ha hc (by omega)
  have a2 := qAdd_ok hb hc (by omega)
  have c3 := qCompare_ok (isR_rat _ (rsz_add za zc)) (isR_rat _ (rsz_add zb zc)) (by omega)
  rw [rcmp_add] at c3
  have d1 := qSub_ok ha hb (by omega)
  have g1 := qSign_ok (isR_rat _ (rsz_sub za zb)) (by omega)
  rw [rcmp_sub] at g1
  have g2 := qSign_ok hc (by omega)
  have m1 := qMul_ok ha hc (by omega)
  have m2 := qMul_ok hb hc (by omega)
  have c4 := qCompare_ok (isR_rat _ (rsz_mul za zc)) (isR_rat _ (rsz_mul zb zc)) (by omega)
  have c5 := qCompare_ok hb hc (by omega)
  have c6 := qCompare_ok ha hc (by omega)
  have hm : 0 < rcmp c 0 → rcmp (a * c) (b * c) = rcmp a b := fun h => rcmp_mul a b (rcmp_pos.1 h)
  have ht : rcmp b c ≤ 0 → rcmp a b ≤ 0 → rcmp a c ≤ 0 := fun h1 h2 => rcmp_le.2 (Rat.le_trans (rcmp_le.1 h2) (rcmp_le.1 h1))
  have hx := rcmp_range a b
  obtain ⟨na, ga, la, ga', la', _, hga, hga', hna, hna', h1⟩ := ha
  generalize mkRat (ival na (nval ga la)) (nval ga' la') = a at *
  obtain ⟨nb, gb, lb, gb', lb', _, hgb, hgb', hnb, hnb', h2⟩ := hb
  generalize mkRat (ival nb (nval gb lb)) (nval gb' lb') = b at *
  obtain ⟨nc, gc, lc, gc', lc', _, hgc, hgc', hnc, hnc', h3⟩ := hc
  generalize mkRat (ival nc (nval gc lc)) (nval gc' lc') = c at *
  generalize rcmp a b = X at *
  generalize rcmp b c = Y at *
  generalize rcmp a c = Z at *
  generalize rcmp c 0 = S at *
  generalize rcmp (a * c) (b * c) = M at *
  refine acall_rule env [0, 1, 2, 3, 4, 5, 6, 7, 39, 53] Try.func6 rfl rfl rfl rfl ?_
  conv => whnf
  first | refine callF c1 ⟨.refl _, .refl _, trivial⟩ (by trivial) rfl ?_ | ((repeat (refine ⟨by kernel_rfl, ?_⟩; (conv => whnf))); refine callF c1 ⟨.refl _, .refl _, trivial⟩ (by trivial) rfl ?_)
  conv => whnf
  first | refine callF awake3_ok trivial (by trivial) rfl ?_ | ((repeat (refine ⟨by kernel_rfl, ?_⟩; (conv => whnf))); refine callF awake3_ok trivial (by trivial) rfl ?_)
  conv => whnf
  first | refine callF c2 ⟨.refl _, .refl _, trivial⟩ (by trivial) rfl ?_ | ((repeat (refine ⟨by kernel_rfl, ?_⟩; (conv => whnf))); refine callF c2 ⟨.refl _, .refl _, trivial⟩ (by trivial) rfl ?_)
  conv => whnf
  refine fit64 (by omega) ?_
  conv => whnf
  refine splF (by simp only [decide_eq_true_eq, decide_eq_false_iff_not, Bool.not_eq_true', Bool.not_eq_false', gt_iff_lt, ge_iff_le] <;> omega) ?_
  conv => whnf
  first | refine callF a1 ⟨.refl _, .refl _, trivial⟩ (by trivial) rfl ?_ | ((repeat (refine ⟨by kernel_rfl, ?_⟩; (conv => whnf))); refine callF a1 ⟨.refl _, .refl _, trivial⟩ (by trivial) rfl ?_)
  conv => whnf
  first | refine callF a2 ⟨.refl _, .refl _, trivial⟩ (by trivial) rfl ?_ | ((repeat (refine ⟨by kernel_rfl, ?_⟩; (conv => whnf))); refine callF a2 ⟨.refl _, .refl _, trivial⟩ (by trivial) rfl ?_)
  conv => whnf
  first | refine callF c3 ⟨.refl _, .refl _, trivial⟩ (by trivial) rfl ?_ | ((repeat (refine ⟨by kernel_rfl, ?_⟩; (conv => whnf))); refine callF c3 ⟨.refl _, .refl _, trivial⟩ (by trivial) rfl ?_)
  conv => whnf
  refine splF (by simp only [decide_eq_true_eq, decide_eq_false_iff_not, Bool.not_eq_true', Bool.not_eq_false', gt_iff_lt, ge_iff_le] <;> omega) ?_
  conv => whnf
  first | refine callF d1 ⟨.refl _, .refl _, trivial⟩ (by trivial) rfl ?_ | ((repeat (refine ⟨by kernel_rfl, ?_⟩; (conv => whnf))); refine callF d1 ⟨.refl _, .refl _, trivial⟩ (by trivial) rfl ?_)
  conv => whnf
  first | refine callF g1 ⟨.refl _, trivial⟩ (by trivial) rfl ?_ | ((repeat (refine ⟨by kernel_rfl, ?_⟩; (conv => whnf))); refine callF g1 ⟨.refl _, trivial⟩ (by trivial) rfl ?_)
  conv => whnf
  refine ⟨by kernel_rfl, ?_⟩
  conv => whnf
  refine splF (by simp only [decide_eq_true_eq, decide_eq_false_iff_not, Bool.not_eq_true', Bool.not_eq_false', gt_iff_lt, ge_iff_le] <;> omega) ?_
  conv => whnf
  first | refine callF g2 ⟨.refl _, trivial⟩ (by trivial) rfl ?_ | ((repeat (refine ⟨by kernel_rfl, ?_⟩; (conv => whnf))); refine callF g2 ⟨.refl _, trivial⟩ (by trivial) rfl ?_)
  conv => whnf
  refine spl (fun hS => ?_) (fun hS => ?_) <;> simp only [decide_eq_true_eq, decide_eq_false_iff_not, Bool.not_eq_true', Bool.not_eq_false', gt_iff_lt, ge_iff_le] at hS
  · conv => whnf
    first | refine callF m1 ⟨.refl _, .refl _, trivial⟩ (by trivial) rfl ?_ | ((repeat (refine ⟨by kernel_rfl, ?_⟩; (conv => whnf))); refine callF m1 ⟨.refl _, .refl _, trivial⟩ (by trivial) rfl ?_)
    conv => whnf
    first | refine callF m2 ⟨.refl _, .refl _, trivial⟩ (by trivial) rfl ?_ | ((repeat (refine ⟨by kernel_rfl, ?_⟩; (conv => whnf))); refine callF m2 ⟨.refl _, .refl _, trivial⟩ (by trivial) rfl ?_)
    conv => whnf
    first | refine callF c4 ⟨.refl _, .refl _, trivial⟩ (by trivial) rfl ?_ | ((repeat (refine ⟨by kernel_rfl, ?_⟩; (conv => whnf))); refine callF c4 ⟨.refl _, .refl _, trivial⟩ (by trivial) rfl ?_)
    conv => whnf
    refine ⟨by kernel_rfl, ?_⟩
    conv => whnf
    refine splF (by simp only [decide_eq_true_eq, decide_eq_false_iff_not, Bool.not_eq_true', Bool.not_eq_false', gt_iff_lt, ge_iff_le] <;> omega) ?_
    conv => whnf
    refine spl (fun h1 => ?_) (fun h1 => ?_) <;> simp only [decide_eq_true_eq, decide_eq_false_iff_not, Bool.not_eq_true', Bool.not_eq_false', gt_iff_lt, ge_iff_le] at h1
    · conv => whnf
      (repeat (refine ⟨by kernel_rfl, ?_⟩; (conv => whnf)))
      refine ⟨(by (try simp only [true_and, and_true, Nat.sub_zero, Nat.zero_add, Int.toNat_natCast]) <;> omega), ?_⟩
      exact .refl _
    · conv => whnf
      first | refine callF c5 ⟨.refl _, .refl _, trivial⟩ (by trivial) rfl ?_ | ((repeat (refine ⟨by kernel_rfl, ?_⟩; (conv => whnf))); refine callF c5 ⟨.refl _, .refl _, trivial⟩ (by trivial) rfl ?_)
      conv => whnf
      refine spl (fun h2 => ?_) (fun h2 => ?_) <;> simp only [decide_eq_true_eq, decide_eq_false_iff_not, Bool.not_eq_true', Bool.not_eq_false', gt_iff_lt, ge_iff_le] at h2
      · conv => whnf
        (repeat (refine ⟨by kernel_rfl, ?_⟩; (conv => whnf)))
        refine ⟨(by (try simp only [true_and, and_true, Nat.sub_zero, Nat.zero_add, Int.toNat_natCast]) <;> omega), ?_⟩
        exact .refl _
      · conv => whnf
        first | refine callF c6 ⟨.refl _, .refl _, trivial⟩ (by trivial) rfl ?_ | ((repeat (refine ⟨by kernel_rfl, ?_⟩; (conv => whnf))); refine callF c6 ⟨.refl _, .refl _, trivial⟩ (by trivial) rfl ?_)
        conv => whnf
        (repeat (refine ⟨by kernel_rfl, ?_⟩; (conv => whnf)))
        refine ⟨(by (try simp only [true_and, and_true, Nat.sub_zero, Nat.zero_add, Int.toNat_natCast]) <;> omega), ?_⟩
        exact .bool_of (decide_eq_true (ht (by omega) (by omega)))
  · conv => whnf
    refine ⟨by kernel_rfl, ?_⟩
    conv => whnf
    refine spl (fun h1 => ?_) (fun h1 => ?_) <;> simp only [decide_eq_true_eq, decide_eq_false_iff_not, Bool.not_eq_true', Bool.not_eq_false', gt_iff_lt, ge_iff_le] at h1
    · conv => whnf
      (repeat (refine ⟨by kernel_rfl, ?_⟩; (conv => whnf)))
      refine ⟨(by (try simp only [true_and, and_true, Nat.sub_zero, Nat.zero_add, Int.toNat_natCast]) <;> omega), ?_⟩
      exact .refl _
    · conv => whnf
      first | refine callF c5 ⟨.refl _, .refl _, trivial⟩ (by trivial) rfl ?_ | ((repeat (refine ⟨by kernel_rfl, ?_⟩; (conv => whnf))); refine callF c5 ⟨.refl _, .refl _, trivial⟩ (by trivial) rfl ?_)
      conv => whnf
      refine spl (fun h2 => ?_) (fun h2 => ?_) <;> simp only [decide_eq_true_eq, decide_eq_false_iff_not, Bool.not_eq_true', Bool.not_eq_false', gt_iff_lt, ge_iff_le] at h2
      · conv => whnf
        (repeat (refine ⟨by kernel_rfl, ?_⟩; (conv => whnf)))
        refine ⟨(by (try simp only [true_and, and_true, Nat.sub_zero, Nat.zero_add, Int.toNat_natCast]) <;> omega), ?_⟩
        exact .refl _
      · conv => whnf
        first | refine callF c6 ⟨.refl _, .refl _, trivial⟩ (by trivial) rfl ?_ | ((repeat (refine ⟨by kernel_rfl, ?_⟩; (conv => whnf))); refine callF c6 ⟨.refl _, .refl _, trivial⟩ (by trivial) rfl ?_)
        conv => whnf
        (repeat (refine ⟨by kernel_rfl, ?_⟩; (conv => whnf)))
        refine ⟨(by (try simp only [true_and, and_true, Nat.sub_zero, Nat.zero_add, Int.toNat_natCast]) <;> omega), ?_⟩
        exact .bool_of (decide_eq_true (ht (by omega) (by omega)))
end Go.Abs

/- The laws of rational numbers, as contracts: roundings, field, arithmetic, scaled. -/
set_option autoImplicit false
set_option maxHeartbeats 4000000
set_option maxRecDepth 10000
set_option linter.unusedVariables false
set_option linter.unusedSimpArgs false
namespace Go.Abs
open Go Go.Proofs


theorem half_sq (d : Rat) (h1 : -1 ≤ 2 * d) (h2 : 2 * d ≤ 1) : d * d ≤ Rat.divInt 1 4 := by
  have h3 : 0 ≤ (1 - 2*d)*(1+2*d) := Rat.mul_nonneg (by grind) (by grind)
  rw [show Rat.divInt 1 4 = 1/4 by decide +kernel]
  grind
theorem round_near (a : Rat) : (a - (rround a : Int)) * (a - (rround a : Int)) ≤ Rat.divInt 1 4 := by
  have h1 := Rat.floor_le a
  have h2 := Rat.lt_floor_add_one a
  rw [Rat.intCast_add, Rat.intCast_one] at h2
  unfold rround
  split
  · rename_i h
    have h3 : 1 ≤ 2 * (a - (a.floor : Int)) := by
      rcases h with h | ⟨h, _⟩
      · exact Rat.le_of_lt (rcmp_pos.1 h)
      · rw [rcmp_zero.1 h]; exact Rat.le_refl
    rw [Rat.intCast_add, Rat.intCast_one]
    refine half_sq _ ?_ ?_ <;> grind
  · rename_i h
    have h3 : 2 * (a - (a.floor : Int)) ≤ 1 := by
      rw [← rcmp_le]; omega
    refine half_sq _ ?_ ?_ <;> grind
theorem isz_rround (a : Rat) {s : Nat} (h : rsz a ≤ s) : isz (rround a) ≤ s + 1 := by
  unfold rround
  split
  · exact isz_add_one (rsz_floor a h) (Nat.le_trans (one_le_rsz a) h)
  · exact Nat.le_trans (rsz_floor a h) (by omega)
theorem isz_ceil (a : Rat) {s : Nat} (h : rsz a ≤ s) : isz a.ceil ≤ s := by
  rw [Rat.ceil_eq_neg_floor_neg, isz_neg]
  exact rsz_floor _ (by rw [rsz_neg]; exact h)

theorem RationalRounds_ok {x : AV} {a : Rat} {s : Nat} (ha : IsR x a s) (hs : s ≤ 1048576) :
    ACall Try.prog 7 [x] (.f (.bool true)) := by
  have za := ha.size
  have f1 := qFloor_ok ha (by omega)
  have f2 := qCeil_ok ha (by omega)
  have f3 := qRound_ok ha (by omega)
  have g1 := sFloor_ok ha (by omega)
  have g2 := sCeil_ok ha (by omega)
  have g3 := sRound_ok ha (by omega)
  have zf := rsz_floor a za
  have zc := isz_ceil a za
  have zr := isz_rround a za
  have e1 := rEqual_same a.floor (by omega)
  have e2 := rEqual_same a.ceil (by omega)
  have e3 := rEqual_same (rround a) (by omega)
  have w1 := sWhole_ok (isI_int _ zf) (by omega)
  have w2 := sWhole_ok (isI_int _ zc) (by omega)
  have w3 := sWhole_ok (isI_int _ zr) (by omega)
  have hs1 : 1 ≤ s := Nat.le_trans (one_le_rsz a) za
  have zz := rsz_int _ zr (by omega)
  have d1 := qSub_ok ha (isR_rat _ zz) (by omega)
  have zd := rsz_sub za zz
  have m1 := qMul_ok (isR_rat _ zd) (isR_rat _ zd) (by omega)
  have zm := rsz_mul zd zd
  have o1 := sOf_ok 1 4 (by decide) (by decide)
  have k1 := qCompare_ok (isR_rat _ zm) (isR_rat (Rat.divInt 1 4) (s := 1) (by decide +kernel)) (by omega)
  have k2 := qCompare_ok (isR_rat _ (rsz_int _ zf hs1)) ha (by omega)
  have k3 := qCompare_ok ha (isR_rat _ (rsz_int _ zc hs1)) (by omega)
  have l1 := rcmp_le.2 (round_near a)
  have l2 := rcmp_le.2 (Rat.floor_le a)
  have l3 := rcmp_le.2 (Rat.le_ceil (x := a))
  obtain ⟨na, ga, la, ga', la', _, hga, hga', hna, hna', h1⟩ := ha
  generalize mkRat (ival na (nval ga la)) (nval ga' la') = a at *
  generalize a.floor = f at *
  generalize a.ceil = c at *
  generalize rround a = r at *
  generalize rcmp ((a - (r : Rat)) * (a - (r : Rat))) (Rat.divInt 1 4) = C1 at *
  generalize rcmp (f : Rat) a = C2 at *
  generalize rcmp a (c : Rat) = C3 at *
  refine acall_rule env [0, 1, 2, 3, 4, 5, 6, 35] Try.func7 rfl rfl rfl rfl ?_
  conv => whnf
  first | refine callF f1 ⟨.refl _, trivial⟩ (by trivial) rfl ?_ | ((repeat (refine ⟨by kernel_rfl, ?_⟩; (conv => whnf))); refine callF f1 ⟨.refl _, trivial⟩ (by trivial) rfl ?_)
  conv => whnf
  first | refine callF f2 ⟨.refl _, trivial⟩ (by trivial) rfl ?_ | ((repeat (refine ⟨by kernel_rfl, ?_⟩; (conv => whnf))); refine callF f2 ⟨.refl _, trivial⟩ (by trivial) rfl ?_)
  conv => whnf
  first | refine callF f3 ⟨.refl _, trivial⟩ (by trivial) rfl ?_ | ((repeat (refine ⟨by kernel_rfl, ?_⟩; (conv => whnf))); refine callF f3 ⟨.refl _, trivial⟩ (by trivial) rfl ?_)
  conv => whnf
  first | refine callF awake3_ok trivial (by trivial) rfl ?_ | ((repeat (refine ⟨by kernel_rfl, ?_⟩; (conv => whnf))); refine callF awake3_ok trivial (by trivial) rfl ?_)
  conv => whnf
  first | refine callF g1 ⟨.refl _, trivial⟩ (by trivial) rfl ?_ | ((repeat (refine ⟨by kernel_rfl, ?_⟩; (conv => whnf))); refine callF g1 ⟨.refl _, trivial⟩ (by trivial) rfl ?_)
  conv => whnf
  first | refine callF e1 ⟨.refl _, .refl _, trivial⟩ (by trivial) rfl ?_ | ((repeat (refine ⟨by kernel_rfl, ?_⟩; (conv => whnf))); refine callF e1 ⟨.refl _, .refl _, trivial⟩ (by trivial) rfl ?_)
  conv => whnf
  first | refine callF g2 ⟨.refl _, trivial⟩ (by trivial) rfl ?_ | ((repeat (refine ⟨by kernel_rfl, ?_⟩; (conv => whnf))); refine callF g2 ⟨.refl _, trivial⟩ (by trivial) rfl ?_)
  conv => whnf
  first | refine callF e2 ⟨.refl _, .refl _, trivial⟩ (by trivial) rfl ?_ | ((repeat (refine ⟨by kernel_rfl, ?_⟩; (conv => whnf))); refine callF e2 ⟨.refl _, .refl _, trivial⟩ (by trivial) rfl ?_)
  conv => whnf
  first | refine callF g3 ⟨.refl _, trivial⟩ (by trivial) rfl ?_ | ((repeat (refine ⟨by kernel_rfl, ?_⟩; (conv => whnf))); refine callF g3 ⟨.refl _, trivial⟩ (by trivial) rfl ?_)
  conv => whnf
  first | refine callF e3 ⟨.refl _, .refl _, trivial⟩ (by trivial) rfl ?_ | ((repeat (refine ⟨by kernel_rfl, ?_⟩; (conv => whnf))); refine callF e3 ⟨.refl _, .refl _, trivial⟩ (by trivial) rfl ?_)
  conv => whnf
  first | refine callF w3 ⟨.refl _, trivial⟩ (by trivial) rfl ?_ | ((repeat (refine ⟨by kernel_rfl, ?_⟩; (conv => whnf))); refine callF w3 ⟨.refl _, trivial⟩ (by trivial) rfl ?_)
  conv => whnf
  first | refine callF d1 ⟨.refl _, .refl _, trivial⟩ (by trivial) rfl ?_ | ((repeat (refine ⟨by kernel_rfl, ?_⟩; (conv => whnf))); refine callF d1 ⟨.refl _, .refl _, trivial⟩ (by trivial) rfl ?_)
  conv => whnf
  first | refine callF m1 ⟨.refl _, .refl _, trivial⟩ (by trivial) rfl ?_ | ((repeat (refine ⟨by kernel_rfl, ?_⟩; (conv => whnf))); refine callF m1 ⟨.refl _, .refl _, trivial⟩ (by trivial) rfl ?_)
  conv => whnf
  first | refine callF o1 ⟨.refl _, .refl _, trivial⟩ (by trivial) rfl ?_ | ((repeat (refine ⟨by kernel_rfl, ?_⟩; (conv => whnf))); refine callF o1 ⟨.refl _, .refl _, trivial⟩ (by trivial) rfl ?_)
  conv => whnf
  first | refine callF k1 ⟨.refl _, .refl _, trivial⟩ (by trivial) rfl ?_ | ((repeat (refine ⟨by kernel_rfl, ?_⟩; (conv => whnf))); refine callF k1 ⟨.refl _, .refl _, trivial⟩ (by trivial) rfl ?_)
  conv => whnf
  refine splT (by simp only [decide_eq_true_eq, decide_eq_false_iff_not, Bool.not_eq_true', Bool.not_eq_false', gt_iff_lt, ge_iff_le] <;> omega) ?_
  conv => whnf
  first | refine callF w1 ⟨.refl _, trivial⟩ (by trivial) rfl ?_ | ((repeat (refine ⟨by kernel_rfl, ?_⟩; (conv => whnf))); refine callF w1 ⟨.refl _, trivial⟩ (by trivial) rfl ?_)
  conv => whnf
  first | refine callF k2 ⟨.refl _, .refl _, trivial⟩ (by trivial) rfl ?_ | ((repeat (refine ⟨by kernel_rfl, ?_⟩; (conv => whnf))); refine callF k2 ⟨.refl _, .refl _, trivial⟩ (by trivial) rfl ?_)
  conv => whnf
  refine splT (by simp only [decide_eq_true_eq, decide_eq_false_iff_not, Bool.not_eq_true', Bool.not_eq_false', gt_iff_lt, ge_iff_le] <;> omega) ?_
  conv => whnf
  first | refine callF w2 ⟨.refl _, trivial⟩ (by trivial) rfl ?_ | ((repeat (refine ⟨by kernel_rfl, ?_⟩; (conv => whnf))); refine callF w2 ⟨.refl _, trivial⟩ (by trivial) rfl ?_)
  conv => whnf
  first | refine callF k3 ⟨.refl _, .refl _, trivial⟩ (by trivial) rfl ?_ | ((repeat (refine ⟨by kernel_rfl, ?_⟩; (conv => whnf))); refine callF k3 ⟨.refl _, .refl _, trivial⟩ (by trivial) rfl ?_)
  conv => whnf
  (repeat (refine ⟨by kernel_rfl, ?_⟩; (conv => whnf)))
  refine ⟨(by (try simp only [true_and, and_true, Nat.sub_zero, Nat.zero_add, Int.toNat_natCast]) <;> omega), ?_⟩
  exact .bool_of (decide_eq_true l3)

theorem RationalField_ok {x y w : AV} {a b c : Rat} {s t u : Nat} (ha : IsR x a s) (hb : IsR y b t) (hc : IsR w c u) (hs : s ≤ 1048576) (ht : t ≤ 1048576) (hu : u ≤ 1048576) :
    ACall Try.prog 8 [x, y, w] (.f (.bool true)) := by
  have za := ha.size
  have zb := hb.size
  have zc := hc.size
  have a1 := qAdd_ok ha hb (by omega)
  have zab := rsz_add za zb
  have a2 := qAdd_ok (isR_rat _ zab) hc (by omega)
  have a3 := qAdd_ok hb hc (by omega)
  have zbc := rsz_add zb zc
  have a4 := qAdd_ok ha (isR_rat _ zbc) (by omega)
  rw [← Rat.add_assoc] at a4
  have zabc := rsz_add zab zc
  have e1 := sEqual_same (a + b + c) (by omega)
  have m1 := qMul_ok ha hb (by omega)
  have mab := rsz_mul za zb
  have m2 := qMul_ok (isR_rat _ mab) hc (by omega)
  have m3 := qMul_ok hb hc (by omega)
  have mbc := rsz_mul zb zc
  have m4 := qMul_ok ha (isR_rat _ mbc) (by omega)
  rw [← Rat.mul_assoc] at m4
  have mabc := rsz_mul mab zc
  have e2 := sEqual_same (a * b * c) (by omega)
  have m5 := qMul_ok ha (isR_rat _ zbc) (by omega)
  have m6 := qMul_ok ha hc (by omega)
  have mac := rsz_mul za zc
  have a5 := qAdd_ok (isR_rat _ mab) (isR_rat _ mac) (by omega)
  rw [← Rat.mul_add] at a5
  have md := rsz_mul za zbc
  have e3 := sEqual_same (a * (b + c)) (by omega)
  have i1 := qInv_ok ha (by omega)
  have n1 := qNeg_ok ha (by omega)
  have a6 := qAdd_ok ha (isR_rat (-a) (s := s) (by rw [rsz_neg]; exact za)) (by omega)
  rw [Rat.add_neg_cancel] at a6
  have z0 := sZero_ok
  have e4 := sEqual_same 0 (by decide)
  have g1 := qSign_ok ha (by omega)
  have m7 := qMul_ok ha (isR_rat a⁻¹ (rsz_inv a za)) (by omega)
  have f1 := sFromInt_ok 1 (by decide)
  have e5 := sEqual_same ((1 : Int) : Rat) (by decide)
  unfold invRes at i1
  obtain ⟨na, ga, la, ga', la', _, hga, hga', hna, hna', h1⟩ := ha
  generalize mkRat (ival na (nval ga la)) (nval ga' la') = a at *
  obtain ⟨nb, gb, lb, gb', lb', _, hgb, hgb', hnb, hnb', h2⟩ := hb
  generalize mkRat (ival nb (nval gb lb)) (nval gb' lb') = b at *
  obtain ⟨nc, gc, lc, gc', lc', _, hgc, hgc', hnc, hnc', h3⟩ := hc
  generalize mkRat (ival nc (nval gc lc)) (nval gc' lc') = c at *
  by_cases h0 : a = 0
  · rw [if_pos h0] at i1
    rw [show rcmp a 0 = 0 from rcmp_zero.2 h0] at g1
    refine acall_rule env [0, 1, 2, 3, 4, 5, 6, 7, 8, 54] Try.func8 rfl rfl rfl rfl ?_
    conv => whnf
    first | refine callF awake3_ok trivial (by trivial) rfl ?_ | ((repeat (refine ⟨by kernel_rfl, ?_⟩; (conv => whnf))); refine callF awake3_ok trivial (by trivial) rfl ?_)
    conv => whnf
    first | refine callF a1 ⟨.refl _, .refl _, trivial⟩ (by trivial) rfl ?_ | ((repeat (refine ⟨by kernel_rfl, ?_⟩; (conv => whnf))); refine callF a1 ⟨.refl _, .refl _, trivial⟩ (by trivial) rfl ?_)
    conv => whnf
    first | refine callF a2 ⟨.refl _, .refl _, trivial⟩ (by trivial) rfl ?_ | ((repeat (refine ⟨by kernel_rfl, ?_⟩; (conv => whnf))); refine callF a2 ⟨.refl _, .refl _, trivial⟩ (by trivial) rfl ?_)
    conv => whnf
    first | refine callF a3 ⟨.refl _, .refl _, trivial⟩ (by trivial) rfl ?_ | ((repeat (refine ⟨by kernel_rfl, ?_⟩; (conv => whnf))); refine callF a3 ⟨.refl _, .refl _, trivial⟩ (by trivial) rfl ?_)
    conv => whnf
    first | refine callF a4 ⟨.refl _, .refl _, trivial⟩ (by trivial) rfl ?_ | ((repeat (refine ⟨by kernel_rfl, ?_⟩; (conv => whnf))); refine callF a4 ⟨.refl _, .refl _, trivial⟩ (by trivial) rfl ?_)
    conv => whnf
    first | refine callF e1 ⟨.refl _, .refl _, trivial⟩ (by trivial) rfl ?_ | ((repeat (refine ⟨by kernel_rfl, ?_⟩; (conv => whnf))); refine callF e1 ⟨.refl _, .refl _, trivial⟩ (by trivial) rfl ?_)
    conv => whnf
    first | refine callF m1 ⟨.refl _, .refl _, trivial⟩ (by trivial) rfl ?_ | ((repeat (refine ⟨by kernel_rfl, ?_⟩; (conv => whnf))); refine callF m1 ⟨.refl _, .refl _, trivial⟩ (by trivial) rfl ?_)
    conv => whnf
    first | refine callF m2 ⟨.refl _, .refl _, trivial⟩ (by trivial) rfl ?_ | ((repeat (refine ⟨by kernel_rfl, ?_⟩; (conv => whnf))); refine callF m2 ⟨.refl _, .refl _, trivial⟩ (by trivial) rfl ?_)
    conv => whnf
    first | refine callF m3 ⟨.refl _, .refl _, trivial⟩ (by trivial) rfl ?_ | ((repeat (refine ⟨by kernel_rfl, ?_⟩; (conv => whnf))); refine callF m3 ⟨.refl _, .refl _, trivial⟩ (by trivial) rfl ?_)
    conv => whnf
    first | refine callF m4 ⟨.refl _, .refl _, trivial⟩ (by trivial) rfl ?_ | ((repeat (refine ⟨by kernel_rfl, ?_⟩; (conv => whnf))); refine callF m4 ⟨.refl _, .refl _, trivial⟩ (by trivial) rfl ?_)
    conv => whnf
    first | refine callF e2 ⟨.refl _, .refl _, trivial⟩ (by trivial) rfl ?_ | ((repeat (refine ⟨by kernel_rfl, ?_⟩; (conv => whnf))); refine callF e2 ⟨.refl _, .refl _, trivial⟩ (by trivial) rfl ?_)
    conv => whnf
    first | refine callF a3 ⟨.refl _, .refl _, trivial⟩ (by trivial) rfl ?_ | ((repeat (refine ⟨by kernel_rfl, ?_⟩; (conv => whnf))); refine callF a3 ⟨.refl _, .refl _, trivial⟩ (by trivial) rfl ?_)
    conv => whnf
    first | refine callF m5 ⟨.refl _, .refl _, trivial⟩ (by trivial) rfl ?_ | ((repeat (refine ⟨by kernel_rfl, ?_⟩; (conv => whnf))); refine callF m5 ⟨.refl _, .refl _, trivial⟩ (by trivial) rfl ?_)
    conv => whnf
    first | refine callF m1 ⟨.refl _, .refl _, trivial⟩ (by trivial) rfl ?_ | ((repeat (refine ⟨by kernel_rfl, ?_⟩; (conv => whnf))); refine callF m1 ⟨.refl _, .refl _, trivial⟩ (by trivial) rfl ?_)
    conv => whnf
    first | refine callF m6 ⟨.refl _, .refl _, trivial⟩ (by trivial) rfl ?_ | ((repeat (refine ⟨by kernel_rfl, ?_⟩; (conv => whnf))); refine callF m6 ⟨.refl _, .refl _, trivial⟩ (by trivial) rfl ?_)
    conv => whnf
    first | refine callF a5 ⟨.refl _, .refl _, trivial⟩ (by trivial) rfl ?_ | ((repeat (refine ⟨by kernel_rfl, ?_⟩; (conv => whnf))); refine callF a5 ⟨.refl _, .refl _, trivial⟩ (by trivial) rfl ?_)
    conv => whnf
    first | refine callF e3 ⟨.refl _, .refl _, trivial⟩ (by trivial) rfl ?_ | ((repeat (refine ⟨by kernel_rfl, ?_⟩; (conv => whnf))); refine callF e3 ⟨.refl _, .refl _, trivial⟩ (by trivial) rfl ?_)
    conv => whnf
    first | refine callF i1 ⟨.refl _, trivial⟩ (by trivial) rfl ?_ | ((repeat (refine ⟨by kernel_rfl, ?_⟩; (conv => whnf))); refine callF i1 ⟨.refl _, trivial⟩ (by trivial) rfl ?_)
    conv => whnf
    first | refine callF n1 ⟨.refl _, trivial⟩ (by trivial) rfl ?_ | ((repeat (refine ⟨by kernel_rfl, ?_⟩; (conv => whnf))); refine callF n1 ⟨.refl _, trivial⟩ (by trivial) rfl ?_)
    conv => whnf
    first | refine callF a6 ⟨.refl _, .refl _, trivial⟩ (by trivial) rfl ?_ | ((repeat (refine ⟨by kernel_rfl, ?_⟩; (conv => whnf))); refine callF a6 ⟨.refl _, .refl _, trivial⟩ (by trivial) rfl ?_)
    conv => whnf
    first | refine callF z0 trivial (by trivial) rfl ?_ | ((repeat (refine ⟨by kernel_rfl, ?_⟩; (conv => whnf))); refine callF z0 trivial (by trivial) rfl ?_)
    conv => whnf
    first | refine callF e4 ⟨.refl _, .refl _, trivial⟩ (by trivial) rfl ?_ | ((repeat (refine ⟨by kernel_rfl, ?_⟩; (conv => whnf))); refine callF e4 ⟨.refl _, .refl _, trivial⟩ (by trivial) rfl ?_)
    conv => whnf
    first | refine callF g1 ⟨.refl _, trivial⟩ (by trivial) rfl ?_ | ((repeat (refine ⟨by kernel_rfl, ?_⟩; (conv => whnf))); refine callF g1 ⟨.refl _, trivial⟩ (by trivial) rfl ?_)
    conv => whnf
    (repeat (refine ⟨by kernel_rfl, ?_⟩; (conv => whnf)))
    refine ⟨(by (try simp only [true_and, and_true, Nat.sub_zero, Nat.zero_add, Int.toNat_natCast]) <;> omega), ?_⟩
    exact .refl _
  · rw [if_neg h0] at i1
    have hC : ¬ rcmp a 0 = 0 := fun h => h0 (rcmp_zero.1 h)
    rw [Rat.mul_inv_cancel a h0] at m7
    rw [show ((1 : Int) : Rat) = 1 from rfl] at f1 e5
    generalize rcmp a 0 = C at *
    refine acall_rule env [0, 1, 2, 3, 4, 5, 6, 7, 8, 54] Try.func8 rfl rfl rfl rfl ?_
    conv => whnf
    first | refine callF awake3_ok trivial (by trivial) rfl ?_ | ((repeat (refine ⟨by kernel_rfl, ?_⟩; (conv => whnf))); refine callF awake3_ok trivial (by trivial) rfl ?_)
    conv => whnf
    first | refine callF a1 ⟨.refl _, .refl _, trivial⟩ (by trivial) rfl ?_ | ((repeat (refine ⟨by kernel_rfl, ?_⟩; (conv => whnf))); refine callF a1 ⟨.refl _, .refl _, trivial⟩ (by trivial) rfl ?_)
    conv => whnf
    first | refine callF a2 ⟨.refl _, .refl _, trivial⟩ (by trivial) rfl ?_ | ((repeat (refine ⟨by kernel_rfl, ?_⟩; (conv => whnf))); refine callF a2 ⟨.refl _, .refl _, trivial⟩ (by trivial) rfl ?_)
    conv => whnf
    first | refine callF a3 ⟨.refl _, .refl _, trivial⟩ (by trivial) rfl ?_ | ((repeat (refine ⟨by kernel_rfl, ?_⟩; (conv => whnf))); refine callF a3 ⟨.refl _, .refl _, trivial⟩ (by trivial) rfl ?_)
    conv => whnf
    first | refine callF a4 ⟨.refl _, .refl _, trivial⟩ (by trivial) rfl ?_ | ((repeat (refine ⟨by kernel_rfl, ?_⟩; (conv => whnf))); refine callF a4 ⟨.refl _, .refl _, trivial⟩ (by trivial) rfl ?_)
    conv => whnf
    first | refine callF e1 ⟨.refl _, .refl _, trivial⟩ (by trivial) rfl ?_ | ((repeat (refine ⟨by kernel_rfl, ?_⟩; (conv => whnf))); refine callF e1 ⟨.refl _, .refl _, trivial⟩ (by trivial) rfl ?_)
    conv => whnf
    first | refine callF m1 ⟨.refl _, .refl _, trivial⟩ (by trivial) rfl ?_ | ((repeat (refine ⟨by kernel_rfl, ?_⟩; (conv => whnf))); refine callF m1 ⟨.refl _, .refl _, trivial⟩ (by trivial) rfl ?_)
    conv => whnf
    first | refine callF m2 ⟨.refl _, .refl _, trivial⟩ (by trivial) rfl ?_ | ((repeat (refine ⟨by kernel_rfl, ?_⟩; (conv => whnf))); refine callF m2 ⟨.refl _, .refl _, trivial⟩ (by trivial) rfl ?_)
    conv => whnf
    first | refine callF m3 ⟨.refl _, .refl _, trivial⟩ (by trivial) rfl ?_ | ((repeat (refine ⟨by kernel_rfl, ?_⟩; (conv => whnf))); refine callF m3 ⟨.refl _, .refl _, trivial⟩ (by trivial) rfl ?_)
    conv => whnf
    first | refine callF m4 ⟨.refl _, .refl _, trivial⟩ (by trivial) rfl ?_ | ((repeat (refine ⟨by kernel_rfl, ?_⟩; (conv => whnf))); refine callF m4 ⟨.refl _, .refl _, trivial⟩ (by trivial) rfl ?_)
    conv => whnf
    first | refine callF e2 ⟨.refl _, .refl _, trivial⟩ (by trivial) rfl ?_ | ((repeat (refine ⟨by kernel_rfl, ?_⟩; (conv => whnf))); refine callF e2 ⟨.refl _, .refl _, trivial⟩ (by trivial) rfl ?_)
    conv => whnf
    first | refine callF a3 ⟨.refl _, .refl _, trivial⟩ (by trivial) rfl ?_ | ((repeat (refine ⟨by kernel_rfl, ?_⟩; (conv => whnf))); refine callF a3 ⟨.refl _, .refl _, trivial⟩ (by trivial) rfl ?_)
    conv => whnf
    first | refine callF m5 ⟨.refl _, .refl _, trivial⟩ (by trivial) rfl ?_ | ((repeat (refine ⟨by kernel_rfl, ?_⟩; (conv => whnf))); refine callF m5 ⟨.refl _, .refl _, trivial⟩ (by trivial) rfl ?_)
    conv => whnf
    first | refine callF m1 ⟨.refl _, .refl _, trivial⟩ (by trivial) rfl ?_ | ((repeat (refine ⟨by kernel_rfl, ?_⟩; (conv => whnf))); refine callF m1 ⟨.refl _, .refl _, trivial⟩ (by trivial) rfl ?_)
    conv => whnf
    first | refine callF m6 ⟨.refl _, .refl _, trivial⟩ (by trivial) rfl ?_ | ((repeat (refine ⟨by kernel_rfl, ?_⟩; (conv => whnf))); refine callF m6 ⟨.refl _, .refl _, trivial⟩ (by trivial) rfl ?_)
    conv => whnf
    first | refine callF a5 ⟨.refl _, .refl _, trivial⟩ (by trivial) rfl ?_ | ((repeat (refine ⟨by kernel_rfl, ?_⟩; (conv => whnf))); refine callF a5 ⟨.refl _, .refl _, trivial⟩ (by trivial) rfl ?_)
    conv => whnf
    first | refine callF e3 ⟨.refl _, .refl _, trivial⟩ (by trivial) rfl ?_ | ((repeat (refine ⟨by kernel_rfl, ?_⟩; (conv => whnf))); refine callF e3 ⟨.refl _, .refl _, trivial⟩ (by trivial) rfl ?_)
    conv => whnf
    first | refine callF i1 ⟨.refl _, trivial⟩ (by trivial) rfl ?_ | ((repeat (refine ⟨by kernel_rfl, ?_⟩; (conv => whnf))); refine callF i1 ⟨.refl _, trivial⟩ (by trivial) rfl ?_)
    conv => whnf
    first | refine callF n1 ⟨.refl _, trivial⟩ (by trivial) rfl ?_ | ((repeat (refine ⟨by kernel_rfl, ?_⟩; (conv => whnf))); refine callF n1 ⟨.refl _, trivial⟩ (by trivial) rfl ?_)
    conv => whnf
    first | refine callF a6 ⟨.refl _, .refl _, trivial⟩ (by trivial) rfl ?_ | ((repeat (refine ⟨by kernel_rfl, ?_⟩; (conv => whnf))); refine callF a6 ⟨.refl _, .refl _, trivial⟩ (by trivial) rfl ?_)
    conv => whnf
    first | refine callF z0 trivial (by trivial) rfl ?_ | ((repeat (refine ⟨by kernel_rfl, ?_⟩; (conv => whnf))); refine callF z0 trivial (by trivial) rfl ?_)
    conv => whnf
    first | refine callF e4 ⟨.refl _, .refl _, trivial⟩ (by trivial) rfl ?_ | ((repeat (refine ⟨by kernel_rfl, ?_⟩; (conv => whnf))); refine callF e4 ⟨.refl _, .refl _, trivial⟩ (by trivial) rfl ?_)
    conv => whnf
    first | refine callF g1 ⟨.refl _, trivial⟩ (by trivial) rfl ?_ | ((repeat (refine ⟨by kernel_rfl, ?_⟩; (conv => whnf))); refine callF g1 ⟨.refl _, trivial⟩ (by trivial) rfl ?_)
    conv => whnf
    refine splT (by simp [hC]) ?_
    conv => whnf
    first | refine callF m7 ⟨.refl _, .refl _, trivial⟩ (by trivial) rfl ?_ | ((repeat (refine ⟨by kernel_rfl, ?_⟩; (conv => whnf))); refine callF m7 ⟨.refl _, .refl _, trivial⟩ (by trivial) rfl ?_)
    conv => whnf
    first | refine callF f1 ⟨.refl _, trivial⟩ (by trivial) rfl ?_ | ((repeat (refine ⟨by kernel_rfl, ?_⟩; (conv => whnf))); refine callF f1 ⟨.refl _, trivial⟩ (by trivial) rfl ?_)
    conv => whnf
    first | refine callF e5 ⟨.refl _, .refl _, trivial⟩ (by trivial) rfl ?_ | ((repeat (refine ⟨by kernel_rfl, ?_⟩; (conv => whnf))); refine callF e5 ⟨.refl _, .refl _, trivial⟩ (by trivial) rfl ?_)
    conv => whnf
    (repeat (refine ⟨by kernel_rfl, ?_⟩; (conv => whnf)))
    refine ⟨(by (try simp only [true_and, and_true, Nat.sub_zero, Nat.zero_add, Int.toNat_natCast]) <;> omega), ?_⟩
    exact .refl _

theorem RationalArithmetic_ok {x y : AV} {a b : Rat} {s t : Nat} (ha : IsR x a s) (hb : IsR y b t) (hs : s ≤ 1048576) (ht : t ≤ 1048576) :
    ACall Try.prog 9 [x, y] (.f (.bool true)) := by
  have za := ha.size
  have zb := hb.size
  have d1 := qDiv_ok ha hb (by omega)
  have d2 := sDiv_ok ha hb (by omega)
  have i1 := qInv_ok ha (by omega)
  have f1 := sFromInt_ok 1 (by decide)
  have r1 : rsz ((1 : Int) : Rat) ≤ 1 := by decide
  have d3 := sDiv_ok (isR_rat _ r1) ha (by omega)
  have hd : qdivRes ((1 : Int) : Rat) a = invRes a := by
    unfold qdivRes invRes
    rw [Rat.div_def, show ((1 : Int) : Rat) = 1 from rfl, Rat.one_mul]
  rw [hd] at d3
  have n1 := qNeg_ok ha (by omega)
  have n2 := sNeg_ok ha (by omega)
  have e1 := sEqual_same (-a) (by rw [rsz_neg]; omega)
  have a1 := qAdd_ok ha hb (by omega)
  have a2 := sAdd_ok ha hb (by omega)
  have zab := rsz_add za zb
  have e2 := sEqual_same (a + b) (by omega)
  have s1 := qSub_ok ha hb (by omega)
  have s2 := sSub_ok ha hb (by omega)
  have zs := rsz_sub za zb
  have e3 := sEqual_same (a - b) (by omega)
  have m1 := qMul_ok ha hb (by omega)
  have m2 := sMul_ok ha hb (by omega)
  have zm := rsz_mul za zb
  have e4 := sEqual_same (a * b) (by omega)
  have ed := sEqual_same (a / b) (Nat.le_trans (rsz_div za zb) (by omega))
  have ei := sEqual_same a⁻¹ (Nat.le_trans (rsz_inv a za) (by omega))
  have e0 := sEqual_rat0
  have hA : ∃ u v, invRes a = .tup [u, .f (.bool v)] ∧ ACall Try.prog 14 [u, u] (.f (.bool true)) ∧ (∃ neg N D, u = .agg [.f (.bool neg), nat N, nat D]) := by
    unfold invRes; split
    · exact ⟨_, _, rfl, e0, _, _, _, rfl⟩
    · exact ⟨_, _, rfl, ei, _, _, _, rfl⟩
  have hB : ∃ u v, qdivRes a b = .tup [u, .f (.bool v)] ∧ ACall Try.prog 14 [u, u] (.f (.bool true)) ∧ (∃ neg N D, u = .agg [.f (.bool neg), nat N, nat D]) := by
    unfold qdivRes; split
    · exact ⟨_, _, rfl, e0, _, _, _, rfl⟩
    · exact ⟨_, _, rfl, ed, _, _, _, rfl⟩
  obtain ⟨u1, v1, h4, h5, nu, Nu, Du, rfl⟩ := hA
  obtain ⟨u2, v2, h6, h7, nv, Nv, Dv, rfl⟩ := hB
  rw [h4] at i1 d3
  rw [h6] at d1 d2
  obtain ⟨na, ga, la, ga', la', _, hga, hga', hna, hna', h1⟩ := ha
  generalize mkRat (ival na (nval ga la)) (nval ga' la') = a at *
  obtain ⟨nb, gb, lb, gb', lb', _, hgb, hgb', hnb, hnb', h2⟩ := hb
  generalize mkRat (ival nb (nval gb lb)) (nval gb' lb') = b at *
  cases v1 <;> cases v2
  · refine acall_rule env [0, 1, 2, 3, 4, 5, 6, 7, 8, 9, 10, 11, 12, 55] Try.func9 rfl rfl rfl rfl ?_
    conv => whnf
    first | refine callF d1 ⟨.refl _, .refl _, trivial⟩ (by trivial) rfl ?_ | ((repeat (refine ⟨by kernel_rfl, ?_⟩; (conv => whnf))); refine callF d1 ⟨.refl _, .refl _, trivial⟩ (by trivial) rfl ?_)
    conv => whnf
    first | refine callF d2 ⟨.refl _, .refl _, trivial⟩ (by trivial) rfl ?_ | ((repeat (refine ⟨by kernel_rfl, ?_⟩; (conv => whnf))); refine callF d2 ⟨.refl _, .refl _, trivial⟩ (by trivial) rfl ?_)
    conv => whnf
    first | refine callF i1 ⟨.refl _, trivial⟩ (by trivial) rfl ?_ | ((repeat (refine ⟨by kernel_rfl, ?_⟩; (conv => whnf))); refine callF i1 ⟨.refl _, trivial⟩ (by trivial) rfl ?_)
    conv => whnf
    first | refine callF f1 ⟨.refl _, trivial⟩ (by trivial) rfl ?_ | ((repeat (refine ⟨by kernel_rfl, ?_⟩; (conv => whnf))); refine callF f1 ⟨.refl _, trivial⟩ (by trivial) rfl ?_)
    conv => whnf
    first | refine callF d3 ⟨.refl _, .refl _, trivial⟩ (by trivial) rfl ?_ | ((repeat (refine ⟨by kernel_rfl, ?_⟩; (conv => whnf))); refine callF d3 ⟨.refl _, .refl _, trivial⟩ (by trivial) rfl ?_)
    conv => whnf
    first | refine callF h7 ⟨.refl _, .refl _, trivial⟩ (by trivial) rfl ?_ | ((repeat (refine ⟨by kernel_rfl, ?_⟩; (conv => whnf))); refine callF h7 ⟨.refl _, .refl _, trivial⟩ (by trivial) rfl ?_)
    conv => whnf
    first | refine callF h5 ⟨.refl _, .refl _, trivial⟩ (by trivial) rfl ?_ | ((repeat (refine ⟨by kernel_rfl, ?_⟩; (conv => whnf))); refine callF h5 ⟨.refl _, .refl _, trivial⟩ (by trivial) rfl ?_)
    conv => whnf
    first | refine callF awake3_ok trivial (by trivial) rfl ?_ | ((repeat (refine ⟨by kernel_rfl, ?_⟩; (conv => whnf))); refine callF awake3_ok trivial (by trivial) rfl ?_)
    conv => whnf
    first | refine callF n1 ⟨.refl _, trivial⟩ (by trivial) rfl ?_ | ((repeat (refine ⟨by kernel_rfl, ?_⟩; (conv => whnf))); refine callF n1 ⟨.refl _, trivial⟩ (by trivial) rfl ?_)
    conv => whnf
    first | refine callF n2 ⟨.refl _, trivial⟩ (by trivial) rfl ?_ | ((repeat (refine ⟨by kernel_rfl, ?_⟩; (conv => whnf))); refine callF n2 ⟨.refl _, trivial⟩ (by trivial) rfl ?_)
    conv => whnf
    first | refine callF e1 ⟨.refl _, .refl _, trivial⟩ (by trivial) rfl ?_ | ((repeat (refine ⟨by kernel_rfl, ?_⟩; (conv => whnf))); refine callF e1 ⟨.refl _, .refl _, trivial⟩ (by trivial) rfl ?_)
    conv => whnf
    first | refine callF a1 ⟨.refl _, .refl _, trivial⟩ (by trivial) rfl ?_ | ((repeat (refine ⟨by kernel_rfl, ?_⟩; (conv => whnf))); refine callF a1 ⟨.refl _, .refl _, trivial⟩ (by trivial) rfl ?_)
    conv => whnf
    first | refine callF a2 ⟨.refl _, .refl _, trivial⟩ (by trivial) rfl ?_ | ((repeat (refine ⟨by kernel_rfl, ?_⟩; (conv => whnf))); refine callF a2 ⟨.refl _, .refl _, trivial⟩ (by trivial) rfl ?_)
    conv => whnf
    first | refine callF e2 ⟨.refl _, .refl _, trivial⟩ (by trivial) rfl ?_ | ((repeat (refine ⟨by kernel_rfl, ?_⟩; (conv => whnf))); refine callF e2 ⟨.refl _, .refl _, trivial⟩ (by trivial) rfl ?_)
    conv => whnf
    first | refine callF s1 ⟨.refl _, .refl _, trivial⟩ (by trivial) rfl ?_ | ((repeat (refine ⟨by kernel_rfl, ?_⟩; (conv => whnf))); refine callF s1 ⟨.refl _, .refl _, trivial⟩ (by trivial) rfl ?_)
    conv => whnf
    first | refine callF s2 ⟨.refl _, .refl _, trivial⟩ (by trivial) rfl ?_ | ((repeat (refine ⟨by kernel_rfl, ?_⟩; (conv => whnf))); refine callF s2 ⟨.refl _, .refl _, trivial⟩ (by trivial) rfl ?_)
    conv => whnf
    first | refine callF e3 ⟨.refl _, .refl _, trivial⟩ (by trivial) rfl ?_ | ((repeat (refine ⟨by kernel_rfl, ?_⟩; (conv => whnf))); refine callF e3 ⟨.refl _, .refl _, trivial⟩ (by trivial) rfl ?_)
    conv => whnf
    first | refine callF m1 ⟨.refl _, .refl _, trivial⟩ (by trivial) rfl ?_ | ((repeat (refine ⟨by kernel_rfl, ?_⟩; (conv => whnf))); refine callF m1 ⟨.refl _, .refl _, trivial⟩ (by trivial) rfl ?_)
    conv => whnf
    first | refine callF m2 ⟨.refl _, .refl _, trivial⟩ (by trivial) rfl ?_ | ((repeat (refine ⟨by kernel_rfl, ?_⟩; (conv => whnf))); refine callF m2 ⟨.refl _, .refl _, trivial⟩ (by trivial) rfl ?_)
    conv => whnf
    first | refine callF e4 ⟨.refl _, .refl _, trivial⟩ (by trivial) rfl ?_ | ((repeat (refine ⟨by kernel_rfl, ?_⟩; (conv => whnf))); refine callF e4 ⟨.refl _, .refl _, trivial⟩ (by trivial) rfl ?_)
    conv => whnf
    (repeat (refine ⟨by kernel_rfl, ?_⟩; (conv => whnf)))
    refine ⟨(by (try simp only [true_and, and_true, Nat.sub_zero, Nat.zero_add, Int.toNat_natCast]) <;> omega), ?_⟩
    exact .refl _
  · refine acall_rule env [0, 1, 2, 3, 4, 5, 6, 7, 8, 9, 10, 11, 12, 55] Try.func9 rfl rfl rfl rfl ?_
    conv => whnf
    first | refine callF d1 ⟨.refl _, .refl _, trivial⟩ (by trivial) rfl ?_ | ((repeat (refine ⟨by kernel_rfl, ?_⟩; (conv => whnf))); refine callF d1 ⟨.refl _, .refl _, trivial⟩ (by trivial) rfl ?_)
    conv => whnf
    first | refine callF d2 ⟨.refl _, .refl _, trivial⟩ (by trivial) rfl ?_ | ((repeat (refine ⟨by kernel_rfl, ?_⟩; (conv => whnf))); refine callF d2 ⟨.refl _, .refl _, trivial⟩ (by trivial) rfl ?_)
    conv => whnf
    first | refine callF i1 ⟨.refl _, trivial⟩ (by trivial) rfl ?_ | ((repeat (refine ⟨by kernel_rfl, ?_⟩; (conv => whnf))); refine callF i1 ⟨.refl _, trivial⟩ (by trivial) rfl ?_)
    conv => whnf
    first | refine callF f1 ⟨.refl _, trivial⟩ (by trivial) rfl ?_ | ((repeat (refine ⟨by kernel_rfl, ?_⟩; (conv => whnf))); refine callF f1 ⟨.refl _, trivial⟩ (by trivial) rfl ?_)
    conv => whnf
    first | refine callF d3 ⟨.refl _, .refl _, trivial⟩ (by trivial) rfl ?_ | ((repeat (refine ⟨by kernel_rfl, ?_⟩; (conv => whnf))); refine callF d3 ⟨.refl _, .refl _, trivial⟩ (by trivial) rfl ?_)
    conv => whnf
    first | refine callF h7 ⟨.refl _, .refl _, trivial⟩ (by trivial) rfl ?_ | ((repeat (refine ⟨by kernel_rfl, ?_⟩; (conv => whnf))); refine callF h7 ⟨.refl _, .refl _, trivial⟩ (by trivial) rfl ?_)
    conv => whnf
    first | refine callF h5 ⟨.refl _, .refl _, trivial⟩ (by trivial) rfl ?_ | ((repeat (refine ⟨by kernel_rfl, ?_⟩; (conv => whnf))); refine callF h5 ⟨.refl _, .refl _, trivial⟩ (by trivial) rfl ?_)
    conv => whnf
    first | refine callF awake3_ok trivial (by trivial) rfl ?_ | ((repeat (refine ⟨by kernel_rfl, ?_⟩; (conv => whnf))); refine callF awake3_ok trivial (by trivial) rfl ?_)
    conv => whnf
    first | refine callF n1 ⟨.refl _, trivial⟩ (by trivial) rfl ?_ | ((repeat (refine ⟨by kernel_rfl, ?_⟩; (conv => whnf))); refine callF n1 ⟨.refl _, trivial⟩ (by trivial) rfl ?_)
    conv => whnf
    first | refine callF n2 ⟨.refl _, trivial⟩ (by trivial) rfl ?_ | ((repeat (refine ⟨by kernel_rfl, ?_⟩; (conv => whnf))); refine callF n2 ⟨.refl _, trivial⟩ (by trivial) rfl ?_)
    conv => whnf
    first | refine callF e1 ⟨.refl _, .refl _, trivial⟩ (by trivial) rfl ?_ | ((repeat (refine ⟨by kernel_rfl, ?_⟩; (conv => whnf))); refine callF e1 ⟨.refl _, .refl _, trivial⟩ (by trivial) rfl ?_)
    conv => whnf
    first | refine callF a1 ⟨.refl _, .refl _, trivial⟩ (by trivial) rfl ?_ | ((repeat (refine ⟨by kernel_rfl, ?_⟩; (conv => whnf))); refine callF a1 ⟨.refl _, .refl _, trivial⟩ (by trivial) rfl ?_)
    conv => whnf
    first | refine callF a2 ⟨.refl _, .refl _, trivial⟩ (by trivial) rfl ?_ | ((repeat (refine ⟨by kernel_rfl, ?_⟩; (conv => whnf))); refine callF a2 ⟨.refl _, .refl _, trivial⟩ (by trivial) rfl ?_)
    conv => whnf
    first | refine callF e2 ⟨.refl _, .refl _, trivial⟩ (by trivial) rfl ?_ | ((repeat (refine ⟨by kernel_rfl, ?_⟩; (conv => whnf))); refine callF e2 ⟨.refl _, .refl _, trivial⟩ (by trivial) rfl ?_)
    conv => whnf
    first | refine callF s1 ⟨.refl _, .refl _, trivial⟩ (by trivial) rfl ?_ | ((repeat (refine ⟨by kernel_rfl, ?_⟩; (conv => whnf))); refine callF s1 ⟨.refl _, .refl _, trivial⟩ (by trivial) rfl ?_)
    conv => whnf
    first | refine callF s2 ⟨.refl _, .refl _, trivial⟩ (by trivial) rfl ?_ | ((repeat (refine ⟨by kernel_rfl, ?_⟩; (conv => whnf))); refine callF s2 ⟨.refl _, .refl _, trivial⟩ (by trivial) rfl ?_)
    conv => whnf
    first | refine callF e3 ⟨.refl _, .refl _, trivial⟩ (by trivial) rfl ?_ | ((repeat (refine ⟨by kernel_rfl, ?_⟩; (conv => whnf))); refine callF e3 ⟨.refl _, .refl _, trivial⟩ (by trivial) rfl ?_)
    conv => whnf
    first | refine callF m1 ⟨.refl _, .refl _, trivial⟩ (by trivial) rfl ?_ | ((repeat (refine ⟨by kernel_rfl, ?_⟩; (conv => whnf))); refine callF m1 ⟨.refl _, .refl _, trivial⟩ (by trivial) rfl ?_)
    conv => whnf
    first | refine callF m2 ⟨.refl _, .refl _, trivial⟩ (by trivial) rfl ?_ | ((repeat (refine ⟨by kernel_rfl, ?_⟩; (conv => whnf))); refine callF m2 ⟨.refl _, .refl _, trivial⟩ (by trivial) rfl ?_)
    conv => whnf
    first | refine callF e4 ⟨.refl _, .refl _, trivial⟩ (by trivial) rfl ?_ | ((repeat (refine ⟨by kernel_rfl, ?_⟩; (conv => whnf))); refine callF e4 ⟨.refl _, .refl _, trivial⟩ (by trivial) rfl ?_)
    conv => whnf
    (repeat (refine ⟨by kernel_rfl, ?_⟩; (conv => whnf)))
    refine ⟨(by (try simp only [true_and, and_true, Nat.sub_zero, Nat.zero_add, Int.toNat_natCast]) <;> omega), ?_⟩
    exact .refl _
  · refine acall_rule env [0, 1, 2, 3, 4, 5, 6, 7, 8, 9, 10, 11, 12, 55] Try.func9 rfl rfl rfl rfl ?_
    conv => whnf
    first | refine callF d1 ⟨.refl _, .refl _, trivial⟩ (by trivial) rfl ?_ | ((repeat (refine ⟨by kernel_rfl, ?_⟩; (conv => whnf))); refine callF d1 ⟨.refl _, .refl _, trivial⟩ (by trivial) rfl ?_)
    conv => whnf
    first | refine callF d2 ⟨.refl _, .refl _, trivial⟩ (by trivial) rfl ?_ | ((repeat (refine ⟨by kernel_rfl, ?_⟩; (conv => whnf))); refine callF d2 ⟨.refl _, .refl _, trivial⟩ (by trivial) rfl ?_)
    conv => whnf
    first | refine callF i1 ⟨.refl _, trivial⟩ (by trivial) rfl ?_ | ((repeat (refine ⟨by kernel_rfl, ?_⟩; (conv => whnf))); refine callF i1 ⟨.refl _, trivial⟩ (by trivial) rfl ?_)
    conv => whnf
    first | refine callF f1 ⟨.refl _, trivial⟩ (by trivial) rfl ?_ | ((repeat (refine ⟨by kernel_rfl, ?_⟩; (conv => whnf))); refine callF f1 ⟨.refl _, trivial⟩ (by trivial) rfl ?_)
    conv => whnf
    first | refine callF d3 ⟨.refl _, .refl _, trivial⟩ (by trivial) rfl ?_ | ((repeat (refine ⟨by kernel_rfl, ?_⟩; (conv => whnf))); refine callF d3 ⟨.refl _, .refl _, trivial⟩ (by trivial) rfl ?_)
    conv => whnf
    first | refine callF h7 ⟨.refl _, .refl _, trivial⟩ (by trivial) rfl ?_ | ((repeat (refine ⟨by kernel_rfl, ?_⟩; (conv => whnf))); refine callF h7 ⟨.refl _, .refl _, trivial⟩ (by trivial) rfl ?_)
    conv => whnf
    first | refine callF h5 ⟨.refl _, .refl _, trivial⟩ (by trivial) rfl ?_ | ((repeat (refine ⟨by kernel_rfl, ?_⟩; (conv => whnf))); refine callF h5 ⟨.refl _, .refl _, trivial⟩ (by trivial) rfl ?_)
    conv => whnf
    first | refine callF awake3_ok trivial (by trivial) rfl ?_ | ((repeat (refine ⟨by kernel_rfl, ?_⟩; (conv => whnf))); refine callF awake3_ok trivial (by trivial) rfl ?_)
    conv => whnf
    first | refine callF n1 ⟨.refl _, trivial⟩ (by trivial) rfl ?_ | ((repeat (refine ⟨by kernel_rfl, ?_⟩; (conv => whnf))); refine callF n1 ⟨.refl _, trivial⟩ (by trivial) rfl ?_)
    conv => whnf
    first | refine callF n2 ⟨.refl _, trivial⟩ (by trivial) rfl ?_ | ((repeat (refine ⟨by kernel_rfl, ?_⟩; (conv => whnf))); refine callF n2 ⟨.refl _, trivial⟩ (by trivial) rfl ?_)
    conv => whnf
    first | refine callF e1 ⟨.refl _, .refl _, trivial⟩ (by trivial) rfl ?_ | ((repeat (refine ⟨by kernel_rfl, ?_⟩; (conv => whnf))); refine callF e1 ⟨.refl _, .refl _, trivial⟩ (by trivial) rfl ?_)
    conv => whnf
    first | refine callF a1 ⟨.refl _, .refl _, trivial⟩ (by trivial) rfl ?_ | ((repeat (refine ⟨by kernel_rfl, ?_⟩; (conv => whnf))); refine callF a1 ⟨.refl _, .refl _, trivial⟩ (by trivial) rfl ?_)
    conv => whnf
    first | refine callF a2 ⟨.refl _, .refl _, trivial⟩ (by trivial) rfl ?_ | ((repeat (refine ⟨by kernel_rfl, ?_⟩; (conv => whnf))); refine callF a2 ⟨.refl _, .refl _, trivial⟩ (by trivial) rfl ?_)
    conv => whnf
    first | refine callF e2 ⟨.refl _, .refl _, trivial⟩ (by trivial) rfl ?_ | ((repeat (refine ⟨by kernel_rfl, ?_⟩; (conv => whnf))); refine callF e2 ⟨.refl _, .refl _, trivial⟩ (by trivial) rfl ?_)
    conv => whnf
    first | refine callF s1 ⟨.refl _, .refl _, trivial⟩ (by trivial) rfl ?_ | ((repeat (refine ⟨by kernel_rfl, ?_⟩; (conv => whnf))); refine callF s1 ⟨.refl _, .refl _, trivial⟩ (by trivial) rfl ?_)
    conv => whnf
    first | refine callF s2 ⟨.refl _, .refl _, trivial⟩ (by trivial) rfl ?_ | ((repeat (refine ⟨by kernel_rfl, ?_⟩; (conv => whnf))); refine callF s2 ⟨.refl _, .refl _, trivial⟩ (by trivial) rfl ?_)
    conv => whnf
    first | refine callF e3 ⟨.refl _, .refl _, trivial⟩ (by trivial) rfl ?_ | ((repeat (refine ⟨by kernel_rfl, ?_⟩; (conv => whnf))); refine callF e3 ⟨.refl _, .refl _, trivial⟩ (by trivial) rfl ?_)
    conv => whnf
    first | refine callF m1 ⟨.refl _, .refl _, trivial⟩ (by trivial) rfl ?_ | ((repeat (refine ⟨by kernel_rfl, ?_⟩; (conv => whnf))); refine callF m1 ⟨.refl _, .refl _, trivial⟩ (by trivial) rfl ?_)
    conv => whnf
    first | refine callF m2 ⟨.refl _, .refl _, trivial⟩ (by trivial) rfl ?_ | ((repeat (refine ⟨by kernel_rfl, ?_⟩; (conv => whnf))); refine callF m2 ⟨.refl _, .refl _, trivial⟩ (by trivial) rfl ?_)
    conv => whnf
    first | refine callF e4 ⟨.refl _, .refl _, trivial⟩ (by trivial) rfl ?_ | ((repeat (refine ⟨by kernel_rfl, ?_⟩; (conv => whnf))); refine callF e4 ⟨.refl _, .refl _, trivial⟩ (by trivial) rfl ?_)
    conv => whnf
    (repeat (refine ⟨by kernel_rfl, ?_⟩; (conv => whnf)))
    refine ⟨(by (try simp only [true_and, and_true, Nat.sub_zero, Nat.zero_add, Int.toNat_natCast]) <;> omega), ?_⟩
    exact .refl _
  · refine acall_rule env [0, 1, 2, 3, 4, 5, 6, 7, 8, 9, 10, 11, 12, 55] Try.func9 rfl rfl rfl rfl ?_
    conv => whnf
    first | refine callF d1 ⟨.refl _, .refl _, trivial⟩ (by trivial) rfl ?_ | ((repeat (refine ⟨by kernel_rfl, ?_⟩; (conv => whnf))); refine callF d1 ⟨.refl _, .refl _, trivial⟩ (by trivial) rfl ?_)
    conv => whnf
    first | refine callF d2 ⟨.refl _, .refl _, trivial⟩ (by trivial) rfl ?_ | ((repeat (refine ⟨by kernel_rfl, ?_⟩; (conv => whnf))); refine callF d2 ⟨.refl _, .refl _, trivial⟩ (by trivial) rfl ?_)
    conv => whnf
    first | refine callF i1 ⟨.refl _, trivial⟩ (by trivial) rfl ?_ | ((repeat (refine ⟨by kernel_rfl, ?_⟩; (conv => whnf))); refine callF i1 ⟨.refl _, trivial⟩ (by trivial) rfl ?_)
    conv => whnf
    first | refine callF f1 ⟨.refl _, trivial⟩ (by trivial) rfl ?_ | ((repeat (refine ⟨by kernel_rfl, ?_⟩; (conv => whnf))); refine callF f1 ⟨.refl _, trivial⟩ (by trivial) rfl ?_)
    conv => whnf
    first | refine callF d3 ⟨.refl _, .refl _, trivial⟩ (by trivial) rfl ?_ | ((repeat (refine ⟨by kernel_rfl, ?_⟩; (conv => whnf))); refine callF d3 ⟨.refl _, .refl _, trivial⟩ (by trivial) rfl ?_)
    conv => whnf
    first | refine callF h7 ⟨.refl _, .refl _, trivial⟩ (by trivial) rfl ?_ | ((repeat (refine ⟨by kernel_rfl, ?_⟩; (conv => whnf))); refine callF h7 ⟨.refl _, .refl _, trivial⟩ (by trivial) rfl ?_)
    conv => whnf
    first | refine callF h5 ⟨.refl _, .refl _, trivial⟩ (by trivial) rfl ?_ | ((repeat (refine ⟨by kernel_rfl, ?_⟩; (conv => whnf))); refine callF h5 ⟨.refl _, .refl _, trivial⟩ (by trivial) rfl ?_)
    conv => whnf
    first | refine callF awake3_ok trivial (by trivial) rfl ?_ | ((repeat (refine ⟨by kernel_rfl, ?_⟩; (conv => whnf))); refine callF awake3_ok trivial (by trivial) rfl ?_)
    conv => whnf
    first | refine callF n1 ⟨.refl _, trivial⟩ (by trivial) rfl ?_ | ((repeat (refine ⟨by kernel_rfl, ?_⟩; (conv => whnf))); refine callF n1 ⟨.refl _, trivial⟩ (by trivial) rfl ?_)
    conv => whnf
    first | refine callF n2 ⟨.refl _, trivial⟩ (by trivial) rfl ?_ | ((repeat (refine ⟨by kernel_rfl, ?_⟩; (conv => whnf))); refine callF n2 ⟨.refl _, trivial⟩ (by trivial) rfl ?_)
    conv => whnf
    first | refine callF e1 ⟨.refl _, .refl _, trivial⟩ (by trivial) rfl ?_ | ((repeat (refine ⟨by kernel_rfl, ?_⟩; (conv => whnf))); refine callF e1 ⟨.refl _, .refl _, trivial⟩ (by trivial) rfl ?_)
    conv => whnf
    first | refine callF a1 ⟨.refl _, .refl _, trivial⟩ (by trivial) rfl ?_ | ((repeat (refine ⟨by kernel_rfl, ?_⟩; (conv => whnf))); refine callF a1 ⟨.refl _, .refl _, trivial⟩ (by trivial) rfl ?_)
    conv => whnf
    first | refine callF a2 ⟨.refl _, .refl _, trivial⟩ (by trivial) rfl ?_ | ((repeat (refine ⟨by kernel_rfl, ?_⟩; (conv => whnf))); refine callF a2 ⟨.refl _, .refl _, trivial⟩ (by trivial) rfl ?_)
    conv => whnf
    first | refine callF e2 ⟨.refl _, .refl _, trivial⟩ (by trivial) rfl ?_ | ((repeat (refine ⟨by kernel_rfl, ?_⟩; (conv => whnf))); refine callF e2 ⟨.refl _, .refl _, trivial⟩ (by trivial) rfl ?_)
    conv => whnf
    first | refine callF s1 ⟨.refl _, .refl _, trivial⟩ (by trivial) rfl ?_ | ((repeat (refine ⟨by kernel_rfl, ?_⟩; (conv => whnf))); refine callF s1 ⟨.refl _, .refl _, trivial⟩ (by trivial) rfl ?_)
    conv => whnf
    first | refine callF s2 ⟨.refl _, .refl _, trivial⟩ (by trivial) rfl ?_ | ((repeat (refine ⟨by kernel_rfl, ?_⟩; (conv => whnf))); refine callF s2 ⟨.refl _, .refl _, trivial⟩ (by trivial) rfl ?_)
    conv => whnf
    first | refine callF e3 ⟨.refl _, .refl _, trivial⟩ (by trivial) rfl ?_ | ((repeat (refine ⟨by kernel_rfl, ?_⟩; (conv => whnf))); refine callF e3 ⟨.refl _, .refl _, trivial⟩ (by trivial) rfl ?_)
    conv => whnf
    first | refine callF m1 ⟨.refl _, .refl _, trivial⟩ (by trivial) rfl ?_ | ((repeat (refine ⟨by kernel_rfl, ?_⟩; (conv => whnf))); refine callF m1 ⟨.refl _, .refl _, trivial⟩ (by trivial) rfl ?_)
    conv => whnf
    first | refine callF m2 ⟨.refl _, .refl _, trivial⟩ (by trivial) rfl ?_ | ((repeat (refine ⟨by kernel_rfl, ?_⟩; (conv => whnf))); refine callF m2 ⟨.refl _, .refl _, trivial⟩ (by trivial) rfl ?_)
    conv => whnf
    first | refine callF e4 ⟨.refl _, .refl _, trivial⟩ (by trivial) rfl ?_ | ((repeat (refine ⟨by kernel_rfl, ?_⟩; (conv => whnf))); refine callF e4 ⟨.refl _, .refl _, trivial⟩ (by trivial) rfl ?_)
    conv => whnf
    (repeat (refine ⟨by kernel_rfl, ?_⟩; (conv => whnf)))
    refine ⟨(by (try simp only [true_and, and_true, Nat.sub_zero, Nat.zero_add, Int.toNat_natCast]) <;> omega), ?_⟩
    exact .refl _
end Go.Abs

/- The laws of rational numbers, as contracts: scaled. -/
set_option autoImplicit false
set_option maxHeartbeats 4000000
set_option maxRecDepth 10000
set_option linter.unusedVariables false
set_option linter.unusedSimpArgs false
namespace Go.Abs
open Go Go.Proofs

theorem isR_parts (b : Bool) (N D : Nat) {s : Nat} (hN : size N ≤ s) (hD : size D ≤ s) (h1 : 1 ≤ s) : IsR (.agg [.f (.bool b), nat N, nat D]) (mkRat (ival b N) D) s := by
  have := IsR.mk b (digit N) (size N) (digit D) (size D) s (digit_Dig _ _) (digit_Dig _ _) hN hD h1
  rw [nval_digit_size, nval_digit_size] at this; exact this

theorem RationalScaled_ok {x y : AV} {a b : Rat} {s t : Nat} (k : Int) (ha : IsR x a s) (hb : IsR y b t) (hs : s ≤ 1048576) (ht : t ≤ 1048576) (hk : 0 ≤ k ∧ k ≤ 4294967295) :
    ACall Try.prog 5 [x, y, .f (.int .u32 k)] (.f (.bool true)) := by
  obtain ⟨K, rfl⟩ : ∃ K : Nat, k = K := ⟨k.toNat, by omega⟩
  have g1 := sSign_ok ha (by omega)
  have za := ha.size
  have zb := hb.size
  have a1 := qAdd_ok ha hb (by omega)
  have m1 := qMul_ok ha hb (by omega)
  have c1 := qCompare_ok ha hb (by omega)
  have f1 := qFloor_ok ha (by omega)
  have z1 := qSize_ok ha (by omega)
  have e1 := sEqual_same (a + b) (Nat.le_trans (rsz_add za zb) (by omega))
  have e2 := sEqual_same (a * b) (Nat.le_trans (rsz_mul za zb) (by omega))
  have e3 := rEqual_same a.floor (Nat.le_trans (rsz_floor a za) (by omega))
  by_cases hK : K = 0
  · subst hK
    obtain ⟨na, ga, la, ga', la', _, hga, hga', hna, hna', h1⟩ := ha
    obtain ⟨nb, gb, lb, gb', lb', _, hgb, hgb', hnb, hnb', h2⟩ := hb
    refine acall_rule env [0, 1, 2, 3, 4, 6, 7, 8, 15] Try.func5 rfl rfl rfl rfl ?_
    conv => whnf
    first | refine callF awake3_ok trivial (by trivial) rfl ?_ | ((repeat (refine ⟨by kernel_rfl, ?_⟩; (conv => whnf))); refine callF awake3_ok trivial (by trivial) rfl ?_)
    conv => whnf
    (repeat (refine ⟨by kernel_rfl, ?_⟩; (conv => whnf)))
    refine ⟨(by (try simp only [true_and, and_true, Nat.sub_zero, Nat.zero_add, Int.toNat_natCast]) <;> omega), ?_⟩
    exact .refl _
  have hq : ∃ w, IsR w a (s + 1) ∧ ∀ (na : Bool) (ga : Nat → Nat) (la : Nat) (ga' : Nat → Nat) (la' : Nat), x = rrat na ga la ga' la' → a ≠ 0 → ∃ bb NN DD, w = .agg [.f (.bool bb), nat NN, nat DD] ∧
      ACall Try.prog 20 [rint na ga la, .agg [.f (.bool false), nat K]] (.agg [.f (.bool bb), nat NN]) ∧ ACall Try.prog 20 [rint false ga' la', .agg [.f (.bool false), nat K]] (.agg [.f (.bool false), nat DD]) := by
    obtain ⟨na, ga, la, ga', la', _, hga, hga', hna, hna', h1⟩ := ha
    have iK : IsI (int (K : Nat)) (K : Nat) 1 := isI_int _ (by rw [isz_nat]; exact size_le (by rw [show pw 1 = 4294967296 from rfl]; omega))
    have m2 := rMul_ok (.mk na ga la s hga hna) iK (by omega)
    have m3 := rMul_ok (isI_pos hga' hna') iK (by omega)
    rw [int_nonneg] at m2 m3
    rw [← Int.natCast_mul, int_nonneg] at m3
    have sN := isz_mul (show isz (ival na (nval ga la)) ≤ s by rw [isz, ival_abs]; exact Nat.le_trans (size_nval hga) hna) iK.size
    have sD := size_mul2 (Nat.le_trans (size_nval hga') hna') (show size K ≤ 1 from size_le (by rw [show pw 1 = 4294967296 from rfl]; omega))
    have hw := isR_parts (decide (ival na (nval ga la) * (K : Nat) < 0)) (ival na (nval ga la) * (K : Nat)).natAbs (nval ga' la' * K) sN sD (by omega)
    rw [ival_self, Rat.mkRat_mul_right hK] at hw
    refine ⟨_, hw, fun na' ga2 la2 ga2' la2' he _ => ?_⟩
    simp only [rrat, AV.agg.injEq, List.cons.injEq, AV.f.injEq, FV.bool.injEq, and_true] at he
    obtain ⟨rfl, h4, h5⟩ := he
    exact ⟨_, _, _, rfl, by unfold rint at m2 ⊢; rw [← h4]; exact m2, by unfold rint at m3 ⊢; rw [← h5]; exact m3⟩
  obtain ⟨w, hw, hm⟩ := hq
  have a2 := qAdd_ok hw hb (by omega)
  have m2 := qMul_ok hw hb (by omega)
  have c2 := qCompare_ok hw hb (by omega)
  have f2 := qFloor_ok hw (by omega)
  have z2 := qSize_ok hw (by omega)
  obtain ⟨na, ga, la, ga', la', _, hga, hga', hna, hna', h1⟩ := ha
  replace hm := hm _ _ _ _ _ rfl
  obtain ⟨nb, gb, lb, gb', lb', _, hgb, hgb', hnb, hnb', h2⟩ := hb
  generalize mkRat (ival na (nval ga la)) (nval ga' la') = a at *
  generalize mkRat (ival nb (nval gb lb)) (nval gb' lb') = b at *
  by_cases ha0 : a = 0
  · rw [rcmp_zero.2 ha0] at g1
    refine acall_rule env [0, 1, 2, 3, 4, 6, 7, 8, 15] Try.func5 rfl rfl rfl rfl ?_
    conv => whnf
    refine splF (by simp only [decide_eq_true_eq, decide_eq_false_iff_not, Bool.not_eq_true', Bool.not_eq_false', gt_iff_lt, ge_iff_le] <;> omega) ?_
    conv => whnf
    first | refine callF g1 ⟨.refl _, trivial⟩ (by trivial) rfl ?_ | ((repeat (refine ⟨by kernel_rfl, ?_⟩; (conv => whnf))); refine callF g1 ⟨.refl _, trivial⟩ (by trivial) rfl ?_)
    conv => whnf
    first | refine callF awake3_ok trivial (by trivial) rfl ?_ | ((repeat (refine ⟨by kernel_rfl, ?_⟩; (conv => whnf))); refine callF awake3_ok trivial (by trivial) rfl ?_)
    conv => whnf
    (repeat (refine ⟨by kernel_rfl, ?_⟩; (conv => whnf)))
    refine ⟨(by (try simp only [true_and, and_true, Nat.sub_zero, Nat.zero_add, Int.toNat_natCast]) <;> omega), ?_⟩
    exact .refl _
  · obtain ⟨bb, NN, DD, rfl, m3, m4⟩ := hm ha0
    have hC : ¬ rcmp a 0 = 0 := fun h => ha0 (rcmp_zero.1 h)
    generalize rcmp a 0 = C at *
    generalize rcmp a b = C2 at *
    generalize bitlen a.num.natAbs + bitlen a.den = Z at *
    have hlit : AVle (.agg [.f (.bool false), .f (.sl 1 (fun j => List.take 1 (List.drop ((0 + j) * 1) [.int .u32 (K : Int)])) 1 none)]) (.agg [.f (.bool false), nat K]) := .agg ⟨.refl _, .nat_lit K (by omega) (by omega) rfl, trivial⟩
    refine acall_rule env [0, 1, 2, 3, 4, 6, 7, 8, 15] Try.func5 rfl rfl rfl rfl ?_
    conv => whnf
    refine splF (by simp only [decide_eq_true_eq, decide_eq_false_iff_not, Bool.not_eq_true', Bool.not_eq_false', gt_iff_lt, ge_iff_le] <;> omega) ?_
    conv => whnf
    first | refine callF g1 ⟨.refl _, trivial⟩ (by trivial) rfl ?_ | ((repeat (refine ⟨by kernel_rfl, ?_⟩; (conv => whnf))); refine callF g1 ⟨.refl _, trivial⟩ (by trivial) rfl ?_)
    conv => whnf
    refine splF (by simp only [decide_eq_true_eq, decide_eq_false_iff_not, Bool.not_eq_true', Bool.not_eq_false', gt_iff_lt, ge_iff_le] <;> omega) ?_
    conv => whnf
    refine callF m3 ⟨.refl _, hlit, trivial⟩ ?_ rfl ?_
    conv => whnf
    · exact ⟨⟨trivial, trivial, trivial⟩, ⟨trivial, (show 1 ≤ 1 / 1 - 0 by decide), trivial⟩, trivial⟩
    refine callF m4 ⟨.refl _, hlit, trivial⟩ ?_ rfl ?_
    conv => whnf
    · exact ⟨⟨trivial, trivial, trivial⟩, ⟨trivial, (show 1 ≤ 1 / 1 - 0 by decide), trivial⟩, trivial⟩
    first | refine callF awake3_ok trivial (by trivial) rfl ?_ | ((repeat (refine ⟨by kernel_rfl, ?_⟩; (conv => whnf))); refine callF awake3_ok trivial (by trivial) rfl ?_)
    conv => whnf
    first | refine callF a1 ⟨.refl _, .refl _, trivial⟩ (by trivial) rfl ?_ | ((repeat (refine ⟨by kernel_rfl, ?_⟩; (conv => whnf))); refine callF a1 ⟨.refl _, .refl _, trivial⟩ (by trivial) rfl ?_)
    conv => whnf
    first | refine callF a2 ⟨.refl _, .refl _, trivial⟩ (by trivial) rfl ?_ | ((repeat (refine ⟨by kernel_rfl, ?_⟩; (conv => whnf))); refine callF a2 ⟨.refl _, .refl _, trivial⟩ (by trivial) rfl ?_)
    conv => whnf
    first | refine callF e1 ⟨.refl _, .refl _, trivial⟩ (by trivial) rfl ?_ | ((repeat (refine ⟨by kernel_rfl, ?_⟩; (conv => whnf))); refine callF e1 ⟨.refl _, .refl _, trivial⟩ (by trivial) rfl ?_)
    conv => whnf
    first | refine callF m1 ⟨.refl _, .refl _, trivial⟩ (by trivial) rfl ?_ | ((repeat (refine ⟨by kernel_rfl, ?_⟩; (conv => whnf))); refine callF m1 ⟨.refl _, .refl _, trivial⟩ (by trivial) rfl ?_)
    conv => whnf
    first | refine callF m2 ⟨.refl _, .refl _, trivial⟩ (by trivial) rfl ?_ | ((repeat (refine ⟨by kernel_rfl, ?_⟩; (conv => whnf))); refine callF m2 ⟨.refl _, .refl _, trivial⟩ (by trivial) rfl ?_)
    conv => whnf
    first | refine callF e2 ⟨.refl _, .refl _, trivial⟩ (by trivial) rfl ?_ | ((repeat (refine ⟨by kernel_rfl, ?_⟩; (conv => whnf))); refine callF e2 ⟨.refl _, .refl _, trivial⟩ (by trivial) rfl ?_)
    conv => whnf
    first | refine callF c1 ⟨.refl _, .refl _, trivial⟩ (by trivial) rfl ?_ | ((repeat (refine ⟨by kernel_rfl, ?_⟩; (conv => whnf))); refine callF c1 ⟨.refl _, .refl _, trivial⟩ (by trivial) rfl ?_)
    conv => whnf
    first | refine callF c2 ⟨.refl _, .refl _, trivial⟩ (by trivial) rfl ?_ | ((repeat (refine ⟨by kernel_rfl, ?_⟩; (conv => whnf))); refine callF c2 ⟨.refl _, .refl _, trivial⟩ (by trivial) rfl ?_)
    conv => whnf
    refine splT (by simp only [decide_eq_true_eq, decide_eq_false_iff_not, Bool.not_eq_true', Bool.not_eq_false', gt_iff_lt, ge_iff_le] <;> omega) ?_
    conv => whnf
    first | refine callF f1 ⟨.refl _, trivial⟩ (by trivial) rfl ?_ | ((repeat (refine ⟨by kernel_rfl, ?_⟩; (conv => whnf))); refine callF f1 ⟨.refl _, trivial⟩ (by trivial) rfl ?_)
    conv => whnf
    first | refine callF f2 ⟨.refl _, trivial⟩ (by trivial) rfl ?_ | ((repeat (refine ⟨by kernel_rfl, ?_⟩; (conv => whnf))); refine callF f2 ⟨.refl _, trivial⟩ (by trivial) rfl ?_)
    conv => whnf
    first | refine callF e3 ⟨.refl _, .refl _, trivial⟩ (by trivial) rfl ?_ | ((repeat (refine ⟨by kernel_rfl, ?_⟩; (conv => whnf))); refine callF e3 ⟨.refl _, .refl _, trivial⟩ (by trivial) rfl ?_)
    conv => whnf
    first | refine callF z1 ⟨.refl _, trivial⟩ (by trivial) rfl ?_ | ((repeat (refine ⟨by kernel_rfl, ?_⟩; (conv => whnf))); refine callF z1 ⟨.refl _, trivial⟩ (by trivial) rfl ?_)
    conv => whnf
    first | refine callF z2 ⟨.refl _, trivial⟩ (by trivial) rfl ?_ | ((repeat (refine ⟨by kernel_rfl, ?_⟩; (conv => whnf))); refine callF z2 ⟨.refl _, trivial⟩ (by trivial) rfl ?_)
    conv => whnf
    (repeat (refine ⟨by kernel_rfl, ?_⟩; (conv => whnf)))
    refine ⟨(by (try simp only [true_and, and_true, Nat.sub_zero, Nat.zero_add, Int.toNat_natCast]) <;> omega), ?_⟩
    exact .bool_of (decide_eq_true rfl)
end Go.Abs

/- What comes in: lists of limbs, integers. -/
set_option autoImplicit false
set_option maxHeartbeats 4000000
set_option linter.unusedVariables false
set_option linter.unusedSimpArgs false
namespace Go.Abs
open Go Go.Proofs

theorem dec_limbs {c : List FV} {n : Nat} (h : Fits tab 22 c n) : ∃ (g : Nat → Nat) (m : Nat), Dig g m ∧ m + 1 ≤ n ∧ All2 FVle c [.sl 1 (fun j => [.int .u32 (g j : Nat)]) m none] := by
  obtain ⟨te, at_, len, bs, he, rfl, hel, hn⟩ := h.inv rfl
  have hte : te = ⟨.int .u32, 1, 4, [.int .u32 0]⟩ := by cases he; rfl
  have hx : ∀ i, i < len → ∃ x : Nat, x < 4294967296 ∧ at_ i = [.int .u32 (x : Int)] := by
    intro i hi
    have := (hel i hi).inv he
    subst hte
    obtain ⟨z, h1, h2, h3⟩ := this
    refine ⟨z.toNat, ?_, ?_⟩
    · have : z ≤ 4294967295 := h3
      have : 0 ≤ z := h2
      omega
    · have : 0 ≤ z := h2
      rw [h1, Int.toNat_of_nonneg this]
  obtain ⟨g, hg⟩ := pickF hx
  refine ⟨g, len, fun i hi => (hg i hi).1, ?_, ?_, trivial⟩
  · have := len_le_sumTo (bs := bs) (n := len) fun i hi => (hel i hi).pos
    omega
  · subst hte
    refine .sl (fun i hi => ?_) (.inl rfl)
    rw [(hg i hi).2]
    exact ⟨.refl _, trivial⟩

theorem dec_Int {c : List FV} {n : Nat} (h : Fits tab 24 c n) : ∃ (neg : Bool) (g : Nat → Nat) (m : Nat), Dig g m ∧ m + 1 ≤ n ∧ All2 FVle c [.bool neg, .sl 1 (fun j => [.int .u32 (g j : Nat)]) m none] := by
  obtain ⟨m0, hf, hn⟩ := h.inv rfl
  obtain ⟨a, b, c1, c2, h1, h2, rfl, rfl⟩ := hf.inv
  obtain ⟨a2, b2, c3, c4, h3, h4, rfl, rfl⟩ := h2.inv
  obtain ⟨rfl, rfl⟩ := h4.inv0
  obtain ⟨neg, rfl⟩ := h1.inv rfl
  obtain ⟨g, m, hg, hm, hle⟩ := dec_limbs h3
  refine ⟨neg, g, m, hg, by omega, ?_⟩
  rw [List.append_nil]
  exact ⟨.refl _, hle⟩

theorem all2_fle_fL : ∀ {c c' : List FV}, All2 FVle c c' → All2 AVle (fL c) (fL c')
  | [], [], _ => by simp [fL, All2]
  | x :: r, y :: r', ⟨a, b⟩ => by simp only [fL]; exact ⟨.f a, all2_fle_fL b⟩
  | [], _ :: _, h => h.elim
  | _ :: _, [], h => h.elim
theorem AVle.of_fL {c c' : List FV} (h : All2 FVle c c') : AVle (.agg (fL c)) (.agg (fL c')) := .agg (all2_fle_fL h)
theorem par_Int {c : List FV} {n : Nat} (h : Fits tab 24 c n) : ∃ (x : AV) (z : Int), IsI x z n ∧ AVle (.agg (fL c)) x := by
  obtain ⟨neg, g, m, hg, hm, hle⟩ := dec_Int h
  exact ⟨_, _, .mk neg g m n hg (by omega), .of_fL hle⟩
theorem par_limbs {c : FV} {n : Nat} (h : Fits tab 22 [c] n) : ∃ (g : Nat → Nat) (m : Nat), Dig g m ∧ m ≤ n ∧ AVle (.f c) (raw g m) := by
  obtain ⟨g, m, hg, hm, hle⟩ := dec_limbs h
  exact ⟨g, m, hg, by omega, .f hle.1⟩
theorem par_int {c : FV} {n : Nat} (h : Fits tab 3 [c] n) : ∃ z : Int, (-9223372036854775808 ≤ z ∧ z ≤ 9223372036854775807) ∧ AVle (.f c) (.f (.int .i64 z)) := by
  obtain ⟨z, hc, h1, h2⟩ := h.inv rfl
  cases hc
  exact ⟨z, ⟨h1, h2⟩, .refl _⟩
end Go.Abs

/- What comes in: rational numbers. -/
set_option autoImplicit false
set_option maxHeartbeats 4000000
set_option linter.unusedVariables false
set_option linter.unusedSimpArgs false
namespace Go.Abs
open Go Go.Proofs

theorem all2_app {α β : Type} {R : α → β → Prop} : ∀ {a : List α} {b : List β} {c : List α} {d : List β}, All2 R a b → All2 R c d → All2 R (a ++ c) (b ++ d)
  | [], [], _, _, _, h => h
  | _ :: _, _ :: _, _, _, ⟨h1, h2⟩, h => ⟨h1, all2_app h2 h⟩
  | [], _ :: _, _, _, h, _ => h.elim
  | _ :: _, [], _, _, h, _ => h.elim
theorem dec_Rat {c : List FV} {n : Nat} (h : Fits tab 26 c n) : ∃ (neg : Bool) (g : Nat → Nat) (m : Nat) (g' : Nat → Nat) (m' : Nat), Dig g m ∧ Dig g' m' ∧ m + m' + 3 ≤ n ∧ All2 FVle c [.bool neg, .sl 1 (fun j => [.int .u32 (g j : Nat)]) m none, .sl 1 (fun j => [.int .u32 (g' j : Nat)]) m' none] := by
  obtain ⟨m0, hf, hn⟩ := h.inv rfl
  obtain ⟨a, b, c1, c2, h1, h2, rfl, rfl⟩ := hf.inv
  obtain ⟨a2, b2, c3, c4, h3, h4, rfl, rfl⟩ := h2.inv
  obtain ⟨rfl, rfl⟩ := h4.inv0
  obtain ⟨neg, g, m, hg, hm, hle⟩ := dec_Int h1
  obtain ⟨g', m', hg', hm', hle'⟩ := dec_limbs h3
  refine ⟨neg, g, m, g', m', hg, hg', by omega, ?_⟩
  rw [List.append_nil]
  exact all2_app hle hle'
theorem par_Rat {c : List FV} {n : Nat} (h : Fits tab 26 c n) : ∃ (x : AV) (q : Rat), IsR x q n ∧ AVle (.agg (fL c)) x := by
  obtain ⟨neg, g, m, g', m', hg, hg', hm, hle⟩ := dec_Rat h
  exact ⟨_, _, .mk neg g m g' m' n hg hg' (by omega) (by omega) (by omega), .of_fL hle⟩
theorem par_uint32 {c : FV} {n : Nat} (h : Fits tab 34 [c] n) : ∃ z : Int, (0 ≤ z ∧ z ≤ 4294967295) ∧ AVle (.f c) (.f (.int .u32 z)) := by
  obtain ⟨z, hc, h1, h2⟩ := h.inv rfl
  cases hc
  exact ⟨z, ⟨h1, h2⟩, .refl _⟩
theorem par_uint8 {c : FV} {n : Nat} (h : Fits tab 5 [c] n) : ∃ z : Int, (0 ≤ z ∧ z ≤ 255) ∧ AVle (.f c) (.f (.int .u8 z)) := by
  obtain ⟨z, hc, h1, h2⟩ := h.inv rfl
  cases hc
  exact ⟨z, ⟨h1, h2⟩, .refl _⟩
theorem par_bool {c : FV} {n : Nat} (h : Fits tab 4 [c] n) : ∃ b : Bool, AVle (.f c) (.f (.bool b)) := by
  obtain ⟨b, hc⟩ := h.inv rfl
  cases hc
  exact ⟨b, .refl _⟩
end Go.Abs
