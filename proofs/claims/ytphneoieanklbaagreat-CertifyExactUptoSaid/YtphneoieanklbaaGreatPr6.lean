/- Contracts of the functions that the law calls, and the logic in which they are proved: part 6. -/
import Derived.Test.YtphneoieanklbaaGreatPr5
/- The reference's checkers of certificates; all checkers agree. -/
set_option autoImplicit false
set_option maxHeartbeats 4000000
set_option maxRecDepth 10000
set_option linter.unusedVariables false
set_option linter.unusedSimpArgs false
namespace Go.Abs
open Go Go.Proofs

theorem refOptimal_ok {p : Pr} (hp : p.H) {x y : Nat → RR} {n m : Nat} (hx : XH x n) (hy : XH y m) : ACall Tryz.prog 75 [p.a, rats x n, rats y m] (.f (.bool (p.opt x n y m))) := by
  have f1 := refFeasible_ok hp hx
  have b1 := refBound_ok hp hy
  unfold bndRes at b1
  unfold Pr.opt
  cases hb : p.bndOk y m with
  | false =>
    rw [hb, if_neg (by simp)] at b1
    rw [Bool.and_false, Bool.false_and]
    refine acall_rule env [0, 1, 2, 3, 6, 7, 8] Tryz.func75 rfl rfl rfl rfl ?_
    conv => whnf
    (repeat (refine ⟨by kernel_rfl, ?_⟩; (conv => whnf))); refine callF b1 ⟨.refl _, .refl _, trivial⟩ (by trivial) rfl ?_
    conv => whnf
    refine ⟨by kernel_rfl, ?_⟩
    conv => whnf
    (repeat (refine ⟨by kernel_rfl, ?_⟩; (conv => whnf)))
    refine ⟨(by (try simp only [true_and, and_true, Nat.sub_zero, Nat.zero_add, Int.toNat_natCast]) <;> omega), ?_⟩
    exact .refl _
  | true =>
    rw [hb, if_pos rfl] at b1
    have hbz := bnd_sz hp hy hb
    cases hf : p.feas x n with
    | false =>
      rw [hf] at f1
      refine acall_rule env [0, 1, 2, 3, 6, 7, 8] Tryz.func75 rfl rfl rfl rfl ?_
      conv => whnf
      (repeat (refine ⟨by kernel_rfl, ?_⟩; (conv => whnf))); refine callF b1 ⟨.refl _, .refl _, trivial⟩ (by trivial) rfl ?_
      conv => whnf
      (repeat (refine ⟨by kernel_rfl, ?_⟩; (conv => whnf))); refine callF f1 ⟨.refl _, .refl _, trivial⟩ (by trivial) rfl ?_
      conv => whnf
      refine ⟨by kernel_rfl, ?_⟩
      conv => whnf
      (repeat (refine ⟨by kernel_rfl, ?_⟩; (conv => whnf)))
      refine ⟨(by (try simp only [true_and, and_true, Nat.sub_zero, Nat.zero_add, Int.toNat_natCast]) <;> omega), ?_⟩
      exact .refl _
    | true =>
      rw [hf] at f1
      obtain ⟨he, hn, _⟩ := feas_facts hf
      have o1 := refObjective_ok hp hx (errS_zero.2 ⟨he, hn⟩)
      have hoz := obj_sz hp hx he hn
      have c1 := sCompare_ok (isR_rat _ hoz) (isR_rat _ hbz) (by omega)
      have hc : decide (rcmp (p.obj x) (p.bnd y) = 0) = decide (p.obj x = p.bnd y) := decide_eq_decide.2 rcmp_zero
      generalize rcmp (p.obj x) (p.bnd y) = C at *
      generalize p.obj x = q at *
      generalize p.bnd y = r at *
      refine acall_rule env [0, 1, 2, 3, 6, 7, 8] Tryz.func75 rfl rfl rfl rfl ?_
      conv => whnf
      (repeat (refine ⟨by kernel_rfl, ?_⟩; (conv => whnf))); refine callF b1 ⟨.refl _, .refl _, trivial⟩ (by trivial) rfl ?_
      conv => whnf
      (repeat (refine ⟨by kernel_rfl, ?_⟩; (conv => whnf))); refine callF f1 ⟨.refl _, .refl _, trivial⟩ (by trivial) rfl ?_
      conv => whnf
      (repeat (refine ⟨by kernel_rfl, ?_⟩; (conv => whnf))); refine callF o1 ⟨.refl _, .refl _, trivial⟩ (by trivial) rfl ?_
      conv => whnf
      (repeat (refine ⟨by kernel_rfl, ?_⟩; (conv => whnf))); refine callF c1 ⟨.refl _, .refl _, trivial⟩ (by trivial) rfl ?_
      conv => whnf
      refine ⟨by kernel_rfl, ?_⟩
      conv => whnf
      refine ⟨(by (try simp only [true_and, and_true, Nat.sub_zero, Nat.zero_add, Int.toNat_natCast]) <;> omega), ?_⟩
      exact .bool_of (by rw [hc]; rfl)
def Pr.atl (p : Pr) (y : Nat → RR) (m : Nat) (v : RR) : Bool := p.bndOk y m && decide (v.v ≤ p.bnd y)
theorem cAtLeast_rr {p : Pr} (hp : p.H) {y : Nat → RR} {m : Nat} (hy : XH y m) {v : RR} (hv : v.Ok) (hs : v.sz ≤ 1048576) : ACall Tryz.prog 16 [p.a, rats y m, v.a] (.f (.bool (p.atl y m v))) := by
  have b1 := lpBound_ok hp hy
  unfold bndRes at b1
  unfold Pr.atl
  cases hb : p.bndOk y m with
  | false =>
    rw [hb, if_neg (by simp)] at b1
    refine acall_rule env [0, 1, 2, 3, 5, 6, 7, 8] Tryz.func16 rfl rfl rfl rfl ?_
    conv => whnf
    (repeat (refine ⟨by kernel_rfl, ?_⟩; (conv => whnf))); refine callF b1 ⟨.refl _, .refl _, trivial⟩ (by trivial) rfl ?_
    conv => whnf
    (repeat (refine ⟨by kernel_rfl, ?_⟩; (conv => whnf)))
    refine ⟨(by (try simp only [true_and, and_true, Nat.sub_zero, Nat.zero_add, Int.toNat_natCast]) <;> omega), ?_⟩
    exact .refl _
  | true =>
    rw [hb, if_pos rfl] at b1
    have hbz := bnd_sz hp hy hb
    have c1 := qCompare_ok (isR_rat _ hbz) hv.is (by omega)
    have hc : decide (rcmp (p.bnd y) v.v ≥ 0) = decide (v.v ≤ p.bnd y) := decide_eq_decide.2 (by rw [← rcmp_le, rcmp_neg]; omega)
    generalize rcmp (p.bnd y) v.v = C at *
    generalize p.bnd y = r at *
    refine acall_rule env [0, 1, 2, 3, 5, 6, 7, 8] Tryz.func16 rfl rfl rfl rfl ?_
    conv => whnf
    (repeat (refine ⟨by kernel_rfl, ?_⟩; (conv => whnf))); refine callF b1 ⟨.refl _, .refl _, trivial⟩ (by trivial) rfl ?_
    conv => whnf
    (repeat (refine ⟨by kernel_rfl, ?_⟩; (conv => whnf))); refine callF c1 ⟨.refl _, .refl _, trivial⟩ (by trivial) rfl ?_
    conv => whnf
    refine ⟨(by (try simp only [true_and, and_true, Nat.sub_zero, Nat.zero_add, Int.toNat_natCast]) <;> omega), ?_⟩
    exact .bool_of (by rw [hc]; rfl)
theorem refAtLeast_rr {p : Pr} (hp : p.H) {y : Nat → RR} {m : Nat} (hy : XH y m) {v : RR} (hv : v.Ok) (hs : v.sz ≤ 1048576) : ACall Tryz.prog 70 [p.a, rats y m, v.a] (.f (.bool (p.atl y m v))) := by
  have b1 := refBound_ok hp hy
  unfold bndRes at b1
  unfold Pr.atl
  cases hb : p.bndOk y m with
  | false =>
    rw [hb, if_neg (by simp)] at b1
    refine acall_rule env [0, 1, 2, 3, 5, 6, 7, 8] Tryz.func70 rfl rfl rfl rfl ?_
    conv => whnf
    (repeat (refine ⟨by kernel_rfl, ?_⟩; (conv => whnf))); refine callF b1 ⟨.refl _, .refl _, trivial⟩ (by trivial) rfl ?_
    conv => whnf
    (repeat (refine ⟨by kernel_rfl, ?_⟩; (conv => whnf)))
    refine ⟨(by (try simp only [true_and, and_true, Nat.sub_zero, Nat.zero_add, Int.toNat_natCast]) <;> omega), ?_⟩
    exact .refl _
  | true =>
    rw [hb, if_pos rfl] at b1
    have hbz := bnd_sz hp hy hb
    have c1 := sCompare_ok (isR_rat _ hbz) hv.is (by omega)
    have hc : decide (rcmp (p.bnd y) v.v ≥ 0) = decide (v.v ≤ p.bnd y) := decide_eq_decide.2 (by rw [← rcmp_le, rcmp_neg]; omega)
    generalize rcmp (p.bnd y) v.v = C at *
    generalize p.bnd y = r at *
    refine acall_rule env [0, 1, 2, 3, 5, 6, 7, 8] Tryz.func70 rfl rfl rfl rfl ?_
    conv => whnf
    (repeat (refine ⟨by kernel_rfl, ?_⟩; (conv => whnf))); refine callF b1 ⟨.refl _, .refl _, trivial⟩ (by trivial) rfl ?_
    conv => whnf
    (repeat (refine ⟨by kernel_rfl, ?_⟩; (conv => whnf))); refine callF c1 ⟨.refl _, .refl _, trivial⟩ (by trivial) rfl ?_
    conv => whnf
    refine ⟨(by (try simp only [true_and, and_true, Nat.sub_zero, Nat.zero_add, Int.toNat_natCast]) <;> omega), ?_⟩
    exact .bool_of (by rw [hc]; rfl)
/-- all costs zero, in lowest terms -/
def Pr.fre2 (p : Pr) : Pr := ⟨fun j => ⟨RR.of 0, (p.c j).hl, (p.c j).lo, (p.c j).hu, (p.c j).up⟩, p.nc, p.r, p.nr⟩
theorem of0_sz : (RR.of 0).sz = 1 := by rw [RR.of_sz]; decide
theorem fre2_H {p : Pr} (hp : p.H) : p.fre2.H := by
  refine ⟨⟨fun j hj => ⟨RR.of_ok _, (hp.ok.c j hj).lo, (hp.ok.c j hj).up⟩, hp.ok.r⟩, ?_, hp.k, hp.c, hp.r⟩
  have h1 := hp.s
  unfold Pr.sz at h1 ⊢
  have h2 : nsum (fun j => (p.fre2.c j).sz) p.fre2.nc ≤ nsum (fun j => (p.c j).sz) p.nc := nsum_mono fun i hi => by
    show (RR.of 0).sz + (p.c i).lo.sz + (p.c i).up.sz ≤ (p.c i).w.sz + (p.c i).lo.sz + (p.c i).up.sz
    have := RR.sz_pos (p.c i).w
    rw [of0_sz]; omega
  have h3 : nsum (fun i => (p.fre2.r i).sz) p.fre2.nr = nsum (fun i => (p.r i).sz) p.nr := rfl
  omega
theorem fre2_red (p : Pr) (y : Nat → RR) : p.fre2.red y = p.free.red y := by
  funext j
  show (RR.of 0).v - _ = RR.nil.v - _
  rw [RR.of_v, RR.nil_v]; rfl
theorem fre2_bnd (p : Pr) (y : Nat → RR) (m : Nat) : p.fre2.bndOk y m = p.free.bndOk y m ∧ p.fre2.bnd y = p.free.bnd y := by
  have h := fre2_red p y
  constructor
  · unfold Pr.bndOk
    rw [h]; rfl
  · unfold Pr.bnd
    rw [h]; rfl
theorem refFree_ok {p : Pr} (hp : p.H) : ACall Tryz.prog 116 [p.a] p.fre2.a := by
  have hpc := hp.c
  have z1 := sZero_ok
  refine acall_rule env [0, 1, 2, 3, 4, 5, 13] Tryz.func116 rfl rfl rfl rfl ?_
  conv => whnf
  refine .weak (nil_weakB 3 1 27 11 _ [.lsl 27 1 11 0 0 none, .f (.sl 5 (fun i => (p.r i).c) p.nr none)] (by decide) (by decide) rfl rfl ⟨.inr ⟨⟨_, _, rfl⟩, rfl⟩, .inl rfl, trivial⟩) ?_
  refine loop_mod [1, 2, 3, 4] [1, 2, 3, 27] [2, 3] [2, 3, 27]
    (fun μ fr hp_ => ∃ j : Nat, j ≤ p.nc ∧ fr = [bpk 1 2, bpk 2 2, bpk 3 2, (4, .f (.int .i64 j))] ∧
      hp_ = [bxk 1 [.f (.sl 11 (fun j => (p.c j).c) p.nc none), .f (.sl 5 (fun i => (p.r i).c) p.nr none)], bxk 2 [nilCo, nilRo], bxk 3 [.lsl 27 1 11 0 j none, .f (.sl 5 (fun i => (p.r i).c) p.nr none)], (27, 1, .fa 11 j (fun q => (p.fre2.c q).c))] ∧ μ = p.nc - j)
    (fun e fr hp_ => e = .exit 0 ∧ fr = [bpk 2 2, bpk 3 2] ∧
      hp_ = [bxk 2 [nilCo, nilRo], bxk 3 [.lsl 27 1 11 0 p.nc none, .f (.sl 5 (fun i => (p.r i).c) p.nr none)], (27, 1, .fa 11 p.nc (fun q => (p.fre2.c q).c))])
    ⟨_, _, _, _, rfl, ?_, 0, Nat.zero_le _, rfl, rfl, rfl⟩ ?_ ?_
  · exact ⟨⟨rfl, rfl⟩, .refl _, ⟨rfl, rfl⟩, .refl _, ⟨rfl, rfl⟩, .refl _, ⟨rfl, rfl⟩, .fa fun j hj => absurd hj (Nat.not_lt_zero _), trivial⟩
  · rintro _ _ _ ⟨rfl, rfl, rfl⟩
    conv => whnf
    refine ⟨(by (try simp only [true_and, and_true, Nat.sub_zero, Nat.zero_add, Int.toNat_natCast]) <;> omega), ?_⟩
    exact .agg ⟨.f (.sl (fun q hq => by simp only [Nat.zero_add]; exact .fle_co _) (.inl rfl)), .refl _, trivial⟩
  rintro μ _ _ ⟨j, hj, rfl, rfl, rfl⟩
  by_cases hjk : j < p.nc
  · conv => whnf
    refine splT (by simp only [decide_eq_true_eq, decide_eq_false_iff_not, Bool.not_eq_true', Bool.not_eq_false', gt_iff_lt, ge_iff_le] <;> omega) ?_
    conv => whnf
    refine ⟨(by (try simp only [true_and, and_true, Nat.sub_zero, Nat.zero_add, Int.toNat_natCast]) <;> omega), ?_⟩
    conv => whnf
    (repeat (refine ⟨by kernel_rfl, ?_⟩; (conv => whnf))); refine callF z1 trivial (by trivial) rfl ?_
    conv => whnf
    refine ⟨⟨(show 1 ≤ 11 / 11 - 0 by decide), by omega, by omega, (show (j + 1) * 184 ≤ 140737488355328 by omega)⟩, ?_⟩
    conv => whnf
    refine fit64 (by omega) ?_
    conv => whnf
    refine ⟨_, ?_, _, _, [bxk 1 [.f (.sl 11 (fun j => (p.c j).c) p.nc none), .f (.sl 5 (fun i => (p.r i).c) p.nr none)], bxk 2 [nilCo, nilRo], bxk 3 [.lsl 27 1 11 0 (j + 1) none, .f (.sl 5 (fun i => (p.r i).c) p.nr none)], (27, 1, .fa 11 (j + 1) (fun q => (p.fre2.c q).c))], rfl,
      ⟨⟨rfl, rfl⟩, .refl _, ⟨rfl, rfl⟩, .refl _, ⟨rfl, rfl⟩, .refl _, ⟨rfl, rfl⟩, .fa fun q hq => more_co (f := fun q => p.fre2.c q) hq rfl, trivial⟩, j + 1, hjk, rfl, rfl, rfl⟩
    omega
  · obtain rfl : j = p.nc := by omega
    conv => whnf
    refine splF (by simp only [decide_eq_true_eq, decide_eq_false_iff_not, Bool.not_eq_true', Bool.not_eq_false', gt_iff_lt, ge_iff_le] <;> omega) ?_
    conv => whnf
    exact ⟨_, _, _, rfl, .refl _, rfl, rfl, rfl⟩
theorem refInfeasible_ok {p : Pr} (hp : p.H) {y : Nat → RR} {m : Nat} (hy : XH y m) : ACall Tryz.prog 76 [p.a, rats y m] (.f (.bool (p.inf y m))) := by
  have f1 := refFree_ok hp
  have b1 := refBound_ok (fre2_H hp) hy
  unfold bndRes at b1
  unfold Pr.inf
  obtain ⟨g1, g2⟩ := fre2_bnd p y m
  rw [← g1, ← g2]
  cases hb : p.fre2.bndOk y m with
  | false =>
    rw [hb, if_neg (by simp)] at b1
    refine acall_rule env [0, 1, 2, 4, 5, 6] Tryz.func76 rfl rfl rfl rfl ?_
    conv => whnf
    (repeat (refine ⟨by kernel_rfl, ?_⟩; (conv => whnf))); refine callF f1 ⟨.refl _, trivial⟩ (by trivial) rfl ?_
    conv => whnf
    (repeat (refine ⟨by kernel_rfl, ?_⟩; (conv => whnf))); refine callF b1 ⟨.refl _, .refl _, trivial⟩ (by trivial) rfl ?_
    conv => whnf
    (repeat (refine ⟨by kernel_rfl, ?_⟩; (conv => whnf)))
    refine ⟨(by (try simp only [true_and, and_true, Nat.sub_zero, Nat.zero_add, Int.toNat_natCast]) <;> omega), ?_⟩
    exact .refl _
  | true =>
    rw [hb, if_pos rfl] at b1
    have hbz := bnd_sz (fre2_H hp) hy hb
    have c1 := sSign_ok (isR_rat _ hbz) (by omega)
    have hc : decide (rcmp (p.fre2.bnd y) 0 > 0) = decide (0 < p.fre2.bnd y) := decide_eq_decide.2 rcmp_pos
    generalize rcmp (p.fre2.bnd y) 0 = C at *
    generalize p.fre2.bnd y = r at *
    generalize p.fre2 = pf at *
    refine acall_rule env [0, 1, 2, 4, 5, 6] Tryz.func76 rfl rfl rfl rfl ?_
    conv => whnf
    (repeat (refine ⟨by kernel_rfl, ?_⟩; (conv => whnf))); refine callF f1 ⟨.refl _, trivial⟩ (by trivial) rfl ?_
    conv => whnf
    (repeat (refine ⟨by kernel_rfl, ?_⟩; (conv => whnf))); refine callF b1 ⟨.refl _, .refl _, trivial⟩ (by trivial) rfl ?_
    conv => whnf
    (repeat (refine ⟨by kernel_rfl, ?_⟩; (conv => whnf))); refine callF c1 ⟨.refl _, trivial⟩ (by trivial) rfl ?_
    conv => whnf
    refine ⟨(by (try simp only [true_and, and_true, Nat.sub_zero, Nat.zero_add, Int.toNat_natCast]) <;> omega), ?_⟩
    exact .bool_of (by rw [hc]; rfl)
theorem rowU_hold {s : Int} {v : Rat} (h : s = -1 ∨ s = 0 ∨ s = 1) : holdB s v 0 = rowU s v := by
  have e : holdB s v 0 = true ↔ rowU s v = true := by
    rw [holdB_iff]
    unfold rowU
    simp only [Bool.not_eq_true', Bool.or_eq_false_iff, Bool.and_eq_false_iff, decide_eq_false_iff_not]
    rcases h with h | h | h <;> subst h
    · constructor
      · intro h; have := h.1 rfl; exact ⟨.inl (by grind), .inr (by simp)⟩
      · intro h; refine ⟨fun _ => ?_, fun h2 => absurd h2 (by decide), fun h2 => absurd rfl h2⟩
        rcases h.1 with h | h
        · grind
        · exact absurd h (by decide)
    · constructor
      · intro h; have := h.2.2 (by decide) (by decide); exact ⟨.inl (by grind), .inl (by grind)⟩
      · intro h; refine ⟨fun h2 => absurd h2 (by decide), fun h2 => absurd h2 (by decide), fun _ _ => ?_⟩
        rcases h.1 with h1 | h1
        · rcases h.2 with h2 | h2
          · grind
          · exact absurd h2 (by decide)
        · exact absurd h1 (by decide)
    · constructor
      · intro h; have := h.2.1 rfl; exact ⟨.inr (by simp), .inl (by grind)⟩
      · intro h; refine ⟨fun h2 => absurd h2 (by decide), fun _ => ?_, fun _ h2 => absurd rfl h2⟩
        rcases h.2 with h | h
        · grind
        · exact absurd h (by decide)
  cases h1 : holdB s v 0 <;> cases h2 : rowU s v <;> simp_all
theorem refUnbounded_ok {p : Pr} (hp : p.H) {x r : Nat → RR} {n m : Nat} (hx : XH x n) (hr : XH r m) : ACall Tryz.prog 77 [p.a, rats x n, rats r m] (.f (.bool (p.unb x n r m))) := by
  unfold Pr.unb
  have f1 := refFeasible_ok hp hx
  cases hf : p.feas x n with
  | false =>
    rw [hf] at f1
    refine acall_rule env [0, 1, 2, 3, 6, 7, 8, 9, 28, 32, 61, 66, 84] Tryz.func77 rfl rfl rfl rfl ?_
    conv => whnf
    (repeat (refine ⟨by kernel_rfl, ?_⟩; (conv => whnf))); refine callF f1 ⟨.refl _, .refl _, trivial⟩ (by trivial) rfl ?_
    conv => whnf
    (repeat (refine ⟨by kernel_rfl, ?_⟩; (conv => whnf)))
    refine ⟨(by (try simp only [true_and, and_true, Nat.sub_zero, Nat.zero_add, Int.toNat_natCast]) <;> omega), ?_⟩
    exact .refl _
  | true =>
  rw [hf] at f1
  obtain ⟨he, hn, _⟩ := feas_facts hf
  obtain ⟨b1, b2, _, b4⟩ := Pr.err_facts he
  have hrn := hr.n
  have hpc := hp.c
  by_cases hm : m = p.nc
  · rw [decide_eq_true hm, Bool.true_and, Bool.true_and]
    have o1 := refObjective_ok hp hr (errS_zero.2 ⟨he, hm⟩)
    have hoz := obj_sz hp hr he hm
    subst hm
    have so := sSign_ok (isR_rat _ hoz) (by omega)
    have hso : rcmp (p.obj r) 0 ≥ 0 ↔ ¬ p.obj r < 0 := by
      constructor
      · intro h h'; rw [rcmp_lt h'] at h; omega
      · intro h
        have h' := Rat.not_lt.1 h
        rw [← rcmp_le, rcmp_neg] at h'; omega
    unfold Pr.ray
    by_cases hO : p.obj r < 0
    · have hC0 : ¬ rcmp (p.obj r) 0 ≥ 0 := fun h => hso.1 h hO
      rw [decide_eq_true hO, Bool.and_true]
      clear hso
      generalize rcmp (p.obj r) 0 = C0 at *
      generalize p.obj r = O at *
      obtain ⟨B1, hB1⟩ : ∃ B, allB (fun j => colU (p.c j) (r j).v) p.nc = B := ⟨_, rfl⟩
      obtain ⟨B2, hB2⟩ : ∃ B, allB (fun i => rowU (p.r i).s ((p.r i).act r)) p.nr = B := ⟨_, rfl⟩
      rw [hB1, hB2]
      have z1 := sZero_ok
      have ac := fun i (hi : i < p.nr) => refActivity_ok (hp.row he hi) hr
      have acz := fun i (hi : i < p.nr) => act_sz (hp.row he hi) hr
      have hh := fun i (hi : i < p.nr) => refHolds_ok (r := ⟨(p.r i).s, RR.of 0, (p.r i).e, (p.r i).k⟩) ⟨(hp.ok.r i hi).s, RR.of_ok _, (hp.ok.r i hi).e⟩ (by show (RR.of 0).sz ≤ _; rw [of0_sz]; omega) (Nat.le_trans (acz i hi) (by omega))
      refine acall_rule env [0, 1, 2, 3, 6, 7, 8, 9, 28, 32, 61, 66, 84] Tryz.func77 rfl rfl rfl rfl ?_
      conv => whnf
      (repeat (refine ⟨by kernel_rfl, ?_⟩; (conv => whnf))); refine callF f1 ⟨.refl _, .refl _, trivial⟩ (by trivial) rfl ?_
      conv => whnf
      refine splF (by simp) ?_
      conv => whnf
      (repeat (refine ⟨by kernel_rfl, ?_⟩; (conv => whnf))); refine callF o1 ⟨.refl _, .refl _, trivial⟩ (by trivial) rfl ?_
      conv => whnf
      (repeat (refine ⟨by kernel_rfl, ?_⟩; (conv => whnf))); refine callF so ⟨.refl _, trivial⟩ (by trivial) rfl ?_
      conv => whnf
      refine splF (decide_eq_false hC0) ?_
      conv => whnf
      refine loop_mod [2, 3, 6, 7] [3] [2, 3, 6] [3]
        (fun μ fr hp_ => ∃ i : Nat, i ≤ p.nc ∧ allB (fun j => colU (p.c j) (r j).v) i = true ∧ fr = [(2, rats r p.nc), bpk 3 2, (6, .f (.bool false)), (7, .f (.int .i64 i))] ∧
          hp_ = [bxk 3 [.f (.sl 11 (fun j => (p.c j).c) p.nc none), .f (.sl 5 (fun i => (p.r i).c) p.nr none)]] ∧ μ = p.nc - i)
        (fun x fr hp_ => (x = .exit 0 ∧ B1 = true ∧ fr = [(2, rats r p.nc), bpk 3 2, (6, .f (.bool false))] ∧ hp_ = [bxk 3 [.f (.sl 11 (fun j => (p.c j).c) p.nc none), .f (.sl 5 (fun i => (p.r i).c) p.nr none)]]) ∨
          (x = .ret ∧ B1 = false ∧ fr = [(2, rats r p.nc), bpk 3 2, (6, .f (.bool false))] ∧ hp_ = [bxk 3 [.f (.sl 11 (fun j => (p.c j).c) p.nc none), .f (.sl 5 (fun i => (p.r i).c) p.nr none)]]))
        ⟨_, _, _, _, rfl, .refl _, 0, Nat.zero_le _, rfl, rfl, rfl, rfl⟩ ?_ ?_
      · rintro _ _ _ (⟨rfl, rfl, rfl, rfl⟩ | ⟨rfl, rfl, rfl, rfl⟩)
        · conv => whnf
          refine loop_mod [2, 3, 6, 9] [3] [6] []
            (fun μ fr hp_ => ∃ i : Nat, i ≤ p.nr ∧ allB (fun i => rowU (p.r i).s ((p.r i).act r)) i = true ∧ fr = [(2, rats r p.nc), bpk 3 2, (6, .f (.bool false)), (9, .f (.int .i64 i))] ∧
              hp_ = [bxk 3 [.f (.sl 11 (fun j => (p.c j).c) p.nc none), .f (.sl 5 (fun i => (p.r i).c) p.nr none)]] ∧ μ = p.nr - i)
            (fun x fr hp_ => (x = .exit 2 ∧ B2 = true ∧ fr = [(6, .f (.bool false))] ∧ hp_ = []) ∨ (x = .ret ∧ B2 = false ∧ fr = [(6, .f (.bool false))] ∧ hp_ = []))
            ⟨_, _, _, _, rfl, .refl _, 0, Nat.zero_le _, rfl, rfl, rfl, rfl⟩ ?_ ?_
          · rintro _ _ _ (⟨rfl, rfl, rfl, rfl⟩ | ⟨rfl, rfl, rfl, rfl⟩)
            · conv => whnf
              (repeat (refine ⟨by kernel_rfl, ?_⟩; (conv => whnf)))
              refine ⟨(by (try simp only [true_and, and_true, Nat.sub_zero, Nat.zero_add, Int.toNat_natCast]) <;> omega), ?_⟩
              exact .refl _
            · conv => whnf
              (repeat (refine ⟨by kernel_rfl, ?_⟩; (conv => whnf)))
              refine ⟨(by (try simp only [true_and, and_true, Nat.sub_zero, Nat.zero_add, Int.toNat_natCast]) <;> omega), ?_⟩
              exact .refl _
          rintro μ _ _ ⟨i, hi, hall, rfl, rfl, rfl⟩
          by_cases hik : i < p.nr
          · have a1 := ac i hik
            have h1 := hh i hik
            have hf : rowU (p.r i).s ((p.r i).act r) = false → B2 = false := fun h => hB2.symm.trans (allB_false hik h)
            have hb : allB (fun i => rowU (p.r i).s ((p.r i).act r)) (i + 1) = rowU (p.r i).s ((p.r i).act r) := by rw [allB, hall, Bool.true_and]
            have hse := row_sen3 (b4 i hik)
            have hcu : (decide ((p.r i).s = -1 ∨ (p.r i).s = 0 ∨ (p.r i).s = 1) && holdB (p.r i).s ((p.r i).act r) (RR.of 0).v) = rowU (p.r i).s ((p.r i).act r) := by
              rw [decide_eq_true hse, Bool.true_and, RR.of_v]; exact rowU_hold hse
            dsimp only at h1
            rw [hcu] at h1
            cases hv : rowU (p.r i).s ((p.r i).act r) with
            | true =>
              rw [hv] at h1
              conv => whnf
              refine splT (by simp only [decide_eq_true_eq, decide_eq_false_iff_not, Bool.not_eq_true', Bool.not_eq_false', gt_iff_lt, ge_iff_le] <;> omega) ?_
              conv => whnf
              refine ⟨(by (try simp only [true_and, and_true, Nat.sub_zero, Nat.zero_add, Int.toNat_natCast]) <;> omega), ?_⟩
              conv => whnf
              (repeat (refine ⟨by kernel_rfl, ?_⟩; (conv => whnf))); refine callF a1 ⟨.refl _, .refl _, trivial⟩ (by trivial) rfl ?_
              conv => whnf
              refine ⟨(by (try simp only [true_and, and_true, Nat.sub_zero, Nat.zero_add, Int.toNat_natCast]) <;> omega), ?_⟩
              conv => whnf
              (repeat (refine ⟨by kernel_rfl, ?_⟩; (conv => whnf))); refine callF z1 trivial (by trivial) rfl ?_
              conv => whnf
              (repeat (refine ⟨by kernel_rfl, ?_⟩; (conv => whnf))); refine callF h1 ⟨.refl _, .refl _, .refl _, trivial⟩ (by trivial) rfl ?_
              conv => whnf
              refine ⟨by kernel_rfl, ?_⟩
              conv => whnf
              refine fit64 (by omega) ?_
              conv => whnf
              refine ⟨_, ?_, _, _, _, rfl, .refl _, i + 1, hik, by rw [hb, hv], rfl, rfl, rfl⟩
              omega
            | false =>
              rw [hv] at h1
              conv => whnf
              refine splT (by simp only [decide_eq_true_eq, decide_eq_false_iff_not, Bool.not_eq_true', Bool.not_eq_false', gt_iff_lt, ge_iff_le] <;> omega) ?_
              conv => whnf
              refine ⟨(by (try simp only [true_and, and_true, Nat.sub_zero, Nat.zero_add, Int.toNat_natCast]) <;> omega), ?_⟩
              conv => whnf
              (repeat (refine ⟨by kernel_rfl, ?_⟩; (conv => whnf))); refine callF a1 ⟨.refl _, .refl _, trivial⟩ (by trivial) rfl ?_
              conv => whnf
              refine ⟨(by (try simp only [true_and, and_true, Nat.sub_zero, Nat.zero_add, Int.toNat_natCast]) <;> omega), ?_⟩
              conv => whnf
              (repeat (refine ⟨by kernel_rfl, ?_⟩; (conv => whnf))); refine callF z1 trivial (by trivial) rfl ?_
              conv => whnf
              (repeat (refine ⟨by kernel_rfl, ?_⟩; (conv => whnf))); refine callF h1 ⟨.refl _, .refl _, .refl _, trivial⟩ (by trivial) rfl ?_
              conv => whnf
              refine ⟨by kernel_rfl, ?_⟩
              conv => whnf
              exact ⟨_, _, _, rfl, .refl _, .inr ⟨rfl, hf hv, rfl, rfl⟩⟩
          · obtain rfl : i = p.nr := by omega
            conv => whnf
            refine splF (by simp only [decide_eq_true_eq, decide_eq_false_iff_not, Bool.not_eq_true', Bool.not_eq_false', gt_iff_lt, ge_iff_le] <;> omega) ?_
            conv => whnf
            exact ⟨_, _, _, rfl, .refl _, .inl ⟨rfl, by rw [← hB2, hall], rfl, rfl⟩⟩
        · conv => whnf
          (repeat (refine ⟨by kernel_rfl, ?_⟩; (conv => whnf)))
          refine ⟨(by (try simp only [true_and, and_true, Nat.sub_zero, Nat.zero_add, Int.toNat_natCast]) <;> omega), ?_⟩
          exact .refl _
      rintro μ _ _ ⟨i, hi, hall, rfl, rfl, rfl⟩
      by_cases hik : i < p.nc
      · have s1 := sSign_ok (hr.ok i hik).is (by have := hr.s i hik; omega)
        have hf : colU (p.c i) (r i).v = false → B1 = false := fun h => hB1.symm.trans (allB_false hik h)
        have hb : allB (fun j => colU (p.c j) (r j).v) (i + 1) = colU (p.c i) (r i).v := by rw [allB, hall, Bool.true_and]
        have hcu : colU (p.c i) (r i).v = !(((p.c i).hl && decide ((r i).v < 0)) || ((p.c i).hu && decide (0 < (r i).v))) := rfl
        clear ac acz hh
        rcases rcmp_cases (r i).v with ⟨h1, h2⟩ | ⟨h1, h2⟩ | ⟨h1, h2⟩
        · rw [h2] at s1
          rw [decide_eq_true h1, decide_eq_false (show ¬ (r i).v < 0 by grind)] at hcu
          by_cases hl : (p.c i).hl = true
          · by_cases hu : (p.c i).hu = true
            · conv => whnf
              refine splT (by simp only [decide_eq_true_eq, decide_eq_false_iff_not, Bool.not_eq_true', Bool.not_eq_false', gt_iff_lt, ge_iff_le] <;> omega) ?_
              conv => whnf
              refine ⟨(by (try simp only [true_and, and_true, Nat.sub_zero, Nat.zero_add, Int.toNat_natCast]) <;> omega), ?_⟩
              conv => whnf
              (repeat (refine ⟨by kernel_rfl, ?_⟩; (conv => whnf))); refine callF s1 ⟨.refl _, trivial⟩ (by trivial) rfl ?_
              conv => whnf
              refine ⟨(by (try simp only [true_and, and_true, Nat.sub_zero, Nat.zero_add, Int.toNat_natCast]) <;> omega), ?_⟩
              conv => whnf
              refine splT hl ?_
              conv => whnf
              refine ⟨(by (try simp only [true_and, and_true, Nat.sub_zero, Nat.zero_add, Int.toNat_natCast]) <;> omega), ?_⟩
              conv => whnf
              refine splT hu ?_
              conv => whnf
              exact ⟨_, _, _, rfl, .refl _, .inr ⟨rfl, hf (by rw [hcu]; simp [*]), rfl, rfl⟩⟩
            · conv => whnf
              refine splT (by simp only [decide_eq_true_eq, decide_eq_false_iff_not, Bool.not_eq_true', Bool.not_eq_false', gt_iff_lt, ge_iff_le] <;> omega) ?_
              conv => whnf
              refine ⟨(by (try simp only [true_and, and_true, Nat.sub_zero, Nat.zero_add, Int.toNat_natCast]) <;> omega), ?_⟩
              conv => whnf
              (repeat (refine ⟨by kernel_rfl, ?_⟩; (conv => whnf))); refine callF s1 ⟨.refl _, trivial⟩ (by trivial) rfl ?_
              conv => whnf
              refine ⟨(by (try simp only [true_and, and_true, Nat.sub_zero, Nat.zero_add, Int.toNat_natCast]) <;> omega), ?_⟩
              conv => whnf
              refine splT hl ?_
              conv => whnf
              refine ⟨(by (try simp only [true_and, and_true, Nat.sub_zero, Nat.zero_add, Int.toNat_natCast]) <;> omega), ?_⟩
              conv => whnf
              refine splF (by simpa using hu) ?_
              conv => whnf
              refine fit64 (by omega) ?_
              conv => whnf
              refine ⟨_, ?_, _, _, _, rfl, .refl _, i + 1, hik, by rw [hb, hcu]; simp [*], rfl, rfl, rfl⟩
              omega
          · by_cases hu : (p.c i).hu = true
            · conv => whnf
              refine splT (by simp only [decide_eq_true_eq, decide_eq_false_iff_not, Bool.not_eq_true', Bool.not_eq_false', gt_iff_lt, ge_iff_le] <;> omega) ?_
              conv => whnf
              refine ⟨(by (try simp only [true_and, and_true, Nat.sub_zero, Nat.zero_add, Int.toNat_natCast]) <;> omega), ?_⟩
              conv => whnf
              (repeat (refine ⟨by kernel_rfl, ?_⟩; (conv => whnf))); refine callF s1 ⟨.refl _, trivial⟩ (by trivial) rfl ?_
              conv => whnf
              refine ⟨(by (try simp only [true_and, and_true, Nat.sub_zero, Nat.zero_add, Int.toNat_natCast]) <;> omega), ?_⟩
              conv => whnf
              refine splF (by simpa using hl) ?_
              conv => whnf
              refine ⟨(by (try simp only [true_and, and_true, Nat.sub_zero, Nat.zero_add, Int.toNat_natCast]) <;> omega), ?_⟩
              conv => whnf
              refine splT hu ?_
              conv => whnf
              exact ⟨_, _, _, rfl, .refl _, .inr ⟨rfl, hf (by rw [hcu]; simp [*]), rfl, rfl⟩⟩
            · conv => whnf
              refine splT (by simp only [decide_eq_true_eq, decide_eq_false_iff_not, Bool.not_eq_true', Bool.not_eq_false', gt_iff_lt, ge_iff_le] <;> omega) ?_
              conv => whnf
              refine ⟨(by (try simp only [true_and, and_true, Nat.sub_zero, Nat.zero_add, Int.toNat_natCast]) <;> omega), ?_⟩
              conv => whnf
              (repeat (refine ⟨by kernel_rfl, ?_⟩; (conv => whnf))); refine callF s1 ⟨.refl _, trivial⟩ (by trivial) rfl ?_
              conv => whnf
              refine ⟨(by (try simp only [true_and, and_true, Nat.sub_zero, Nat.zero_add, Int.toNat_natCast]) <;> omega), ?_⟩
              conv => whnf
              refine splF (by simpa using hl) ?_
              conv => whnf
              refine ⟨(by (try simp only [true_and, and_true, Nat.sub_zero, Nat.zero_add, Int.toNat_natCast]) <;> omega), ?_⟩
              conv => whnf
              refine splF (by simpa using hu) ?_
              conv => whnf
              refine fit64 (by omega) ?_
              conv => whnf
              refine ⟨_, ?_, _, _, _, rfl, .refl _, i + 1, hik, by rw [hb, hcu]; simp [*], rfl, rfl, rfl⟩
              omega
        · rw [h2] at s1
          rw [decide_eq_false (show ¬ 0 < (r i).v by grind), decide_eq_false (show ¬ (r i).v < 0 by grind), Bool.and_false, Bool.and_false] at hcu
          by_cases hl : (p.c i).hl = true
          · by_cases hu : (p.c i).hu = true
            · conv => whnf
              refine splT (by simp only [decide_eq_true_eq, decide_eq_false_iff_not, Bool.not_eq_true', Bool.not_eq_false', gt_iff_lt, ge_iff_le] <;> omega) ?_
              conv => whnf
              refine ⟨(by (try simp only [true_and, and_true, Nat.sub_zero, Nat.zero_add, Int.toNat_natCast]) <;> omega), ?_⟩
              conv => whnf
              (repeat (refine ⟨by kernel_rfl, ?_⟩; (conv => whnf))); refine callF s1 ⟨.refl _, trivial⟩ (by trivial) rfl ?_
              conv => whnf
              refine ⟨(by (try simp only [true_and, and_true, Nat.sub_zero, Nat.zero_add, Int.toNat_natCast]) <;> omega), ?_⟩
              conv => whnf
              refine splT hl ?_
              conv => whnf
              refine ⟨(by (try simp only [true_and, and_true, Nat.sub_zero, Nat.zero_add, Int.toNat_natCast]) <;> omega), ?_⟩
              conv => whnf
              refine splT hu ?_
              conv => whnf
              refine fit64 (by omega) ?_
              conv => whnf
              refine ⟨_, ?_, _, _, _, rfl, .refl _, i + 1, hik, by rw [hb, hcu]; simp [*], rfl, rfl, rfl⟩
              omega
            · conv => whnf
              refine splT (by simp only [decide_eq_true_eq, decide_eq_false_iff_not, Bool.not_eq_true', Bool.not_eq_false', gt_iff_lt, ge_iff_le] <;> omega) ?_
              conv => whnf
              refine ⟨(by (try simp only [true_and, and_true, Nat.sub_zero, Nat.zero_add, Int.toNat_natCast]) <;> omega), ?_⟩
              conv => whnf
              (repeat (refine ⟨by kernel_rfl, ?_⟩; (conv => whnf))); refine callF s1 ⟨.refl _, trivial⟩ (by trivial) rfl ?_
              conv => whnf
              refine ⟨(by (try simp only [true_and, and_true, Nat.sub_zero, Nat.zero_add, Int.toNat_natCast]) <;> omega), ?_⟩
              conv => whnf
              refine splT hl ?_
              conv => whnf
              refine ⟨(by (try simp only [true_and, and_true, Nat.sub_zero, Nat.zero_add, Int.toNat_natCast]) <;> omega), ?_⟩
              conv => whnf
              refine splF (by simpa using hu) ?_
              conv => whnf
              refine fit64 (by omega) ?_
              conv => whnf
              refine ⟨_, ?_, _, _, _, rfl, .refl _, i + 1, hik, by rw [hb, hcu]; simp [*], rfl, rfl, rfl⟩
              omega
          · by_cases hu : (p.c i).hu = true
            · conv => whnf
              refine splT (by simp only [decide_eq_true_eq, decide_eq_false_iff_not, Bool.not_eq_true', Bool.not_eq_false', gt_iff_lt, ge_iff_le] <;> omega) ?_
              conv => whnf
              refine ⟨(by (try simp only [true_and, and_true, Nat.sub_zero, Nat.zero_add, Int.toNat_natCast]) <;> omega), ?_⟩
              conv => whnf
              (repeat (refine ⟨by kernel_rfl, ?_⟩; (conv => whnf))); refine callF s1 ⟨.refl _, trivial⟩ (by trivial) rfl ?_
              conv => whnf
              refine ⟨(by (try simp only [true_and, and_true, Nat.sub_zero, Nat.zero_add, Int.toNat_natCast]) <;> omega), ?_⟩
              conv => whnf
              refine splF (by simpa using hl) ?_
              conv => whnf
              refine ⟨(by (try simp only [true_and, and_true, Nat.sub_zero, Nat.zero_add, Int.toNat_natCast]) <;> omega), ?_⟩
              conv => whnf
              refine splT hu ?_
              conv => whnf
              refine fit64 (by omega) ?_
              conv => whnf
              refine ⟨_, ?_, _, _, _, rfl, .refl _, i + 1, hik, by rw [hb, hcu]; simp [*], rfl, rfl, rfl⟩
              omega
            · conv => whnf
              refine splT (by simp only [decide_eq_true_eq, decide_eq_false_iff_not, Bool.not_eq_true', Bool.not_eq_false', gt_iff_lt, ge_iff_le] <;> omega) ?_
              conv => whnf
              refine ⟨(by (try simp only [true_and, and_true, Nat.sub_zero, Nat.zero_add, Int.toNat_natCast]) <;> omega), ?_⟩
              conv => whnf
              (repeat (refine ⟨by kernel_rfl, ?_⟩; (conv => whnf))); refine callF s1 ⟨.refl _, trivial⟩ (by trivial) rfl ?_
              conv => whnf
              refine ⟨(by (try simp only [true_and, and_true, Nat.sub_zero, Nat.zero_add, Int.toNat_natCast]) <;> omega), ?_⟩
              conv => whnf
              refine splF (by simpa using hl) ?_
              conv => whnf
              refine ⟨(by (try simp only [true_and, and_true, Nat.sub_zero, Nat.zero_add, Int.toNat_natCast]) <;> omega), ?_⟩
              conv => whnf
              refine splF (by simpa using hu) ?_
              conv => whnf
              refine fit64 (by omega) ?_
              conv => whnf
              refine ⟨_, ?_, _, _, _, rfl, .refl _, i + 1, hik, by rw [hb, hcu]; simp [*], rfl, rfl, rfl⟩
              omega
        · rw [h2] at s1
          rw [decide_eq_false (show ¬ 0 < (r i).v by grind), decide_eq_true h1] at hcu
          by_cases hl : (p.c i).hl = true
          · conv => whnf
            refine splT (by simp only [decide_eq_true_eq, decide_eq_false_iff_not, Bool.not_eq_true', Bool.not_eq_false', gt_iff_lt, ge_iff_le] <;> omega) ?_
            conv => whnf
            refine ⟨(by (try simp only [true_and, and_true, Nat.sub_zero, Nat.zero_add, Int.toNat_natCast]) <;> omega), ?_⟩
            conv => whnf
            (repeat (refine ⟨by kernel_rfl, ?_⟩; (conv => whnf))); refine callF s1 ⟨.refl _, trivial⟩ (by trivial) rfl ?_
            conv => whnf
            refine ⟨(by (try simp only [true_and, and_true, Nat.sub_zero, Nat.zero_add, Int.toNat_natCast]) <;> omega), ?_⟩
            conv => whnf
            refine splT hl ?_
            conv => whnf
            exact ⟨_, _, _, rfl, .refl _, .inr ⟨rfl, hf (by rw [hcu]; simp [*]), rfl, rfl⟩⟩
          · by_cases hu : (p.c i).hu = true
            · conv => whnf
              refine splT (by simp only [decide_eq_true_eq, decide_eq_false_iff_not, Bool.not_eq_true', Bool.not_eq_false', gt_iff_lt, ge_iff_le] <;> omega) ?_
              conv => whnf
              refine ⟨(by (try simp only [true_and, and_true, Nat.sub_zero, Nat.zero_add, Int.toNat_natCast]) <;> omega), ?_⟩
              conv => whnf
              (repeat (refine ⟨by kernel_rfl, ?_⟩; (conv => whnf))); refine callF s1 ⟨.refl _, trivial⟩ (by trivial) rfl ?_
              conv => whnf
              refine ⟨(by (try simp only [true_and, and_true, Nat.sub_zero, Nat.zero_add, Int.toNat_natCast]) <;> omega), ?_⟩
              conv => whnf
              refine splF (by simpa using hl) ?_
              conv => whnf
              refine ⟨(by (try simp only [true_and, and_true, Nat.sub_zero, Nat.zero_add, Int.toNat_natCast]) <;> omega), ?_⟩
              conv => whnf
              refine splT hu ?_
              conv => whnf
              refine fit64 (by omega) ?_
              conv => whnf
              refine ⟨_, ?_, _, _, _, rfl, .refl _, i + 1, hik, by rw [hb, hcu]; simp [*], rfl, rfl, rfl⟩
              omega
            · conv => whnf
              refine splT (by simp only [decide_eq_true_eq, decide_eq_false_iff_not, Bool.not_eq_true', Bool.not_eq_false', gt_iff_lt, ge_iff_le] <;> omega) ?_
              conv => whnf
              refine ⟨(by (try simp only [true_and, and_true, Nat.sub_zero, Nat.zero_add, Int.toNat_natCast]) <;> omega), ?_⟩
              conv => whnf
              (repeat (refine ⟨by kernel_rfl, ?_⟩; (conv => whnf))); refine callF s1 ⟨.refl _, trivial⟩ (by trivial) rfl ?_
              conv => whnf
              refine ⟨(by (try simp only [true_and, and_true, Nat.sub_zero, Nat.zero_add, Int.toNat_natCast]) <;> omega), ?_⟩
              conv => whnf
              refine splF (by simpa using hl) ?_
              conv => whnf
              refine ⟨(by (try simp only [true_and, and_true, Nat.sub_zero, Nat.zero_add, Int.toNat_natCast]) <;> omega), ?_⟩
              conv => whnf
              refine splF (by simpa using hu) ?_
              conv => whnf
              refine fit64 (by omega) ?_
              conv => whnf
              refine ⟨_, ?_, _, _, _, rfl, .refl _, i + 1, hik, by rw [hb, hcu]; simp [*], rfl, rfl, rfl⟩
              omega
      · obtain rfl : i = p.nc := by omega
        conv => whnf
        refine splF (by simp only [decide_eq_true_eq, decide_eq_false_iff_not, Bool.not_eq_true', Bool.not_eq_false', gt_iff_lt, ge_iff_le] <;> omega) ?_
        conv => whnf
        exact ⟨_, _, _, rfl, .refl _, .inl ⟨rfl, by rw [← hB1, hall], rfl, rfl⟩⟩
    · have hC0 : rcmp (p.obj r) 0 ≥ 0 := hso.2 hO
      rw [decide_eq_false hO, Bool.and_false]
      clear hso
      generalize rcmp (p.obj r) 0 = C0 at *
      generalize p.obj r = O at *
      refine acall_rule env [0, 1, 2, 3, 6, 7, 8, 9, 28, 32, 61, 66, 84] Tryz.func77 rfl rfl rfl rfl ?_
      conv => whnf
      (repeat (refine ⟨by kernel_rfl, ?_⟩; (conv => whnf))); refine callF f1 ⟨.refl _, .refl _, trivial⟩ (by trivial) rfl ?_
      conv => whnf
      refine splF (by simp) ?_
      conv => whnf
      (repeat (refine ⟨by kernel_rfl, ?_⟩; (conv => whnf))); refine callF o1 ⟨.refl _, .refl _, trivial⟩ (by trivial) rfl ?_
      conv => whnf
      (repeat (refine ⟨by kernel_rfl, ?_⟩; (conv => whnf))); refine callF so ⟨.refl _, trivial⟩ (by trivial) rfl ?_
      conv => whnf
      refine splT (decide_eq_true hC0) ?_
      conv => whnf
      (repeat (refine ⟨by kernel_rfl, ?_⟩; (conv => whnf)))
      refine ⟨(by (try simp only [true_and, and_true, Nat.sub_zero, Nat.zero_add, Int.toNat_natCast]) <;> omega), ?_⟩
      exact .refl _
  · rw [decide_eq_false hm, Bool.and_false, Bool.false_and]
    refine acall_rule env [0, 1, 2, 3, 6, 7, 8, 9, 28, 32, 61, 66, 84] Tryz.func77 rfl rfl rfl rfl ?_
    conv => whnf
    (repeat (refine ⟨by kernel_rfl, ?_⟩; (conv => whnf))); refine callF f1 ⟨.refl _, .refl _, trivial⟩ (by trivial) rfl ?_
    conv => whnf
    refine splT (by simp; omega) ?_
    conv => whnf
    (repeat (refine ⟨by kernel_rfl, ?_⟩; (conv => whnf)))
    refine ⟨(by (try simp only [true_and, and_true, Nat.sub_zero, Nat.zero_add, Int.toNat_natCast]) <;> omega), ?_⟩
    exact .refl _
end Go.Abs

/- Law of layer 12: all checkers agree. -/
set_option autoImplicit false
set_option maxHeartbeats 4000000
set_option maxRecDepth 10000
set_option linter.unusedVariables false
set_option linter.unusedSimpArgs false
namespace Go.Abs
open Go Go.Proofs

theorem refSolution_ok {p : Pr} (hp : p.H) {s : So} (hs : s.H) : ACall Tryz.prog 78 [p.a, s.a] (.f (.bool (p.sol s))) := by
  have op := refOptimal_ok hp hs.x hs.y
  have inf := refInfeasible_ok hp hs.y
  have un := refUnbounded_ok hp hs.x hs.r
  have sg := sSign_ok hs.v.is (by have := hs.vs; omega)
  have hz : decide (rcmp s.v.v 0 = 0) = decide (s.v.v = 0) := decide_eq_decide.2 rcmp_zero
  have hnx := hs.x.n
  have hny := hs.y.n
  have hnr := hs.r.n
  unfold Pr.sol
  rw [← hz]
  generalize rcmp s.v.v 0 = C at *
  by_cases h1 : s.st = 1
  · rw [if_pos h1]
    cases ho : p.opt s.x s.nx s.y s.ny with
    | false =>
      rw [ho] at op
      refine acall_rule env [0, 1, 2, 3, 4, 5, 11, 12, 36, 57] Tryz.func78 rfl rfl rfl rfl ?_
      conv => whnf
      (repeat (refine ⟨by kernel_rfl, ?_⟩; (conv => whnf))); refine callF sg ⟨.refl _, trivial⟩ (by trivial) rfl ?_
      conv => whnf
      refine splT (decide_eq_true h1) ?_
      conv => whnf
      (repeat (refine ⟨by kernel_rfl, ?_⟩; (conv => whnf))); refine callF op ⟨.refl _, .refl _, .refl _, trivial⟩ (by trivial) rfl ?_
      conv => whnf
      refine ⟨by kernel_rfl, ?_⟩
      conv => whnf
      (repeat (refine ⟨by kernel_rfl, ?_⟩; (conv => whnf)))
      refine ⟨(by (try simp only [true_and, and_true, Nat.sub_zero, Nat.zero_add, Int.toNat_natCast]) <;> omega), ?_⟩
      exact .refl _
    | true =>
      rw [ho] at op
      unfold Pr.opt at ho
      simp only [Bool.and_eq_true, decide_eq_true_eq] at ho
      obtain ⟨he, hn, _⟩ := feas_facts ho.1.1
      have o1 := refObjective_ok hp hs.x (errS_zero.2 ⟨he, hn⟩)
      have hoz := obj_sz hp hs.x he hn
      have c1 := sCompare_ok hs.v.is (isR_rat _ hoz) (by have := hs.vs; omega)
      have hc : rcmp s.v.v (p.obj s.x) = 0 ↔ p.obj s.x = s.v.v := by
        rw [rcmp_zero]
        exact ⟨fun h => h.symm, fun h => h.symm⟩
      generalize rcmp s.v.v (p.obj s.x) = C2 at *
      by_cases hC : C2 = 0
      · rw [decide_eq_true (hc.1 hC), Bool.and_true, Bool.true_and]
        generalize p.obj s.x = O at *
        refine acall_rule env [0, 1, 2, 3, 4, 5, 11, 12, 36, 57] Tryz.func78 rfl rfl rfl rfl ?_
        conv => whnf
        (repeat (refine ⟨by kernel_rfl, ?_⟩; (conv => whnf))); refine callF sg ⟨.refl _, trivial⟩ (by trivial) rfl ?_
        conv => whnf
        refine splT (decide_eq_true h1) ?_
        conv => whnf
        (repeat (refine ⟨by kernel_rfl, ?_⟩; (conv => whnf))); refine callF op ⟨.refl _, .refl _, .refl _, trivial⟩ (by trivial) rfl ?_
        conv => whnf
        (repeat (refine ⟨by kernel_rfl, ?_⟩; (conv => whnf))); refine callF o1 ⟨.refl _, .refl _, trivial⟩ (by trivial) rfl ?_
        conv => whnf
        (repeat (refine ⟨by kernel_rfl, ?_⟩; (conv => whnf))); refine callF c1 ⟨.refl _, .refl _, trivial⟩ (by trivial) rfl ?_
        conv => whnf
        refine splT (decide_eq_true hC) ?_
        conv => whnf
        refine ⟨by kernel_rfl, ?_⟩
        conv => whnf
        refine ⟨(by (try simp only [true_and, and_true, Nat.sub_zero, Nat.zero_add, Int.toNat_natCast]) <;> omega), ?_⟩
        exact .bool_of (decide_eq_decide.2 (by omega))
      · rw [decide_eq_false (fun h => hC (hc.2 h)), Bool.and_false]
        generalize p.obj s.x = O at *
        refine acall_rule env [0, 1, 2, 3, 4, 5, 11, 12, 36, 57] Tryz.func78 rfl rfl rfl rfl ?_
        conv => whnf
        (repeat (refine ⟨by kernel_rfl, ?_⟩; (conv => whnf))); refine callF sg ⟨.refl _, trivial⟩ (by trivial) rfl ?_
        conv => whnf
        refine splT (decide_eq_true h1) ?_
        conv => whnf
        (repeat (refine ⟨by kernel_rfl, ?_⟩; (conv => whnf))); refine callF op ⟨.refl _, .refl _, .refl _, trivial⟩ (by trivial) rfl ?_
        conv => whnf
        (repeat (refine ⟨by kernel_rfl, ?_⟩; (conv => whnf))); refine callF o1 ⟨.refl _, .refl _, trivial⟩ (by trivial) rfl ?_
        conv => whnf
        (repeat (refine ⟨by kernel_rfl, ?_⟩; (conv => whnf))); refine callF c1 ⟨.refl _, .refl _, trivial⟩ (by trivial) rfl ?_
        conv => whnf
        refine splF (decide_eq_false hC) ?_
        conv => whnf
        refine ⟨by kernel_rfl, ?_⟩
        conv => whnf
        (repeat (refine ⟨by kernel_rfl, ?_⟩; (conv => whnf)))
        refine ⟨(by (try simp only [true_and, and_true, Nat.sub_zero, Nat.zero_add, Int.toNat_natCast]) <;> omega), ?_⟩
        exact .refl _
  rw [if_neg h1]
  by_cases h2 : s.st = 2
  · rw [if_pos h2]
    cases hi : p.inf s.y s.ny with
    | false =>
      rw [hi] at inf
      refine acall_rule env [0, 1, 2, 3, 4, 5, 11, 12, 36, 57] Tryz.func78 rfl rfl rfl rfl ?_
      conv => whnf
      (repeat (refine ⟨by kernel_rfl, ?_⟩; (conv => whnf))); refine callF sg ⟨.refl _, trivial⟩ (by trivial) rfl ?_
      conv => whnf
      refine splF (decide_eq_false h1) ?_
      conv => whnf
      refine splT (decide_eq_true h2) ?_
      conv => whnf
      (repeat (refine ⟨by kernel_rfl, ?_⟩; (conv => whnf))); refine callF inf ⟨.refl _, .refl _, trivial⟩ (by trivial) rfl ?_
      conv => whnf
      (repeat (refine ⟨by kernel_rfl, ?_⟩; (conv => whnf)))
      refine ⟨(by (try simp only [true_and, and_true, Nat.sub_zero, Nat.zero_add, Int.toNat_natCast]) <;> omega), ?_⟩
      exact .refl _
    | true =>
    rw [hi] at inf
    by_cases hC : C = 0
    · by_cases hx : s.nx = 0
      · refine acall_rule env [0, 1, 2, 3, 4, 5, 11, 12, 36, 57] Tryz.func78 rfl rfl rfl rfl ?_
        conv => whnf
        (repeat (refine ⟨by kernel_rfl, ?_⟩; (conv => whnf))); refine callF sg ⟨.refl _, trivial⟩ (by trivial) rfl ?_
        conv => whnf
        refine splF (decide_eq_false h1) ?_
        conv => whnf
        refine splT (decide_eq_true h2) ?_
        conv => whnf
        (repeat (refine ⟨by kernel_rfl, ?_⟩; (conv => whnf))); refine callF inf ⟨.refl _, .refl _, trivial⟩ (by trivial) rfl ?_
        conv => whnf
        refine splT (decide_eq_true hC) ?_
        conv => whnf
        refine splT (by simp; omega) ?_
        conv => whnf
        refine ⟨(by (try simp only [true_and, and_true, Nat.sub_zero, Nat.zero_add, Int.toNat_natCast]) <;> omega), ?_⟩
        exact .bool_of (by rw [decide_eq_true hC, decide_eq_true hx]; exact decide_eq_decide.2 (by omega))
      · refine acall_rule env [0, 1, 2, 3, 4, 5, 11, 12, 36, 57] Tryz.func78 rfl rfl rfl rfl ?_
        conv => whnf
        (repeat (refine ⟨by kernel_rfl, ?_⟩; (conv => whnf))); refine callF sg ⟨.refl _, trivial⟩ (by trivial) rfl ?_
        conv => whnf
        refine splF (decide_eq_false h1) ?_
        conv => whnf
        refine splT (decide_eq_true h2) ?_
        conv => whnf
        (repeat (refine ⟨by kernel_rfl, ?_⟩; (conv => whnf))); refine callF inf ⟨.refl _, .refl _, trivial⟩ (by trivial) rfl ?_
        conv => whnf
        refine splT (decide_eq_true hC) ?_
        conv => whnf
        refine splF (by simp; omega) ?_
        conv => whnf
        refine ⟨(by (try simp only [true_and, and_true, Nat.sub_zero, Nat.zero_add, Int.toNat_natCast]) <;> omega), ?_⟩
        exact .bool_of (by simp [hx])
    · refine acall_rule env [0, 1, 2, 3, 4, 5, 11, 12, 36, 57] Tryz.func78 rfl rfl rfl rfl ?_
      conv => whnf
      (repeat (refine ⟨by kernel_rfl, ?_⟩; (conv => whnf))); refine callF sg ⟨.refl _, trivial⟩ (by trivial) rfl ?_
      conv => whnf
      refine splF (decide_eq_false h1) ?_
      conv => whnf
      refine splT (decide_eq_true h2) ?_
      conv => whnf
      (repeat (refine ⟨by kernel_rfl, ?_⟩; (conv => whnf))); refine callF inf ⟨.refl _, .refl _, trivial⟩ (by trivial) rfl ?_
      conv => whnf
      refine splF (decide_eq_false hC) ?_
      conv => whnf
      refine ⟨(by (try simp only [true_and, and_true, Nat.sub_zero, Nat.zero_add, Int.toNat_natCast]) <;> omega), ?_⟩
      exact .bool_of (by simp [hC])
  rw [if_neg h2]
  by_cases h3 : s.st = 3
  · rw [if_pos h3]
    cases hi : p.unb s.x s.nx s.r s.nr with
    | false =>
      rw [hi] at un
      refine acall_rule env [0, 1, 2, 3, 4, 5, 11, 12, 36, 57] Tryz.func78 rfl rfl rfl rfl ?_
      conv => whnf
      (repeat (refine ⟨by kernel_rfl, ?_⟩; (conv => whnf))); refine callF sg ⟨.refl _, trivial⟩ (by trivial) rfl ?_
      conv => whnf
      refine splF (decide_eq_false h1) ?_
      conv => whnf
      refine splF (decide_eq_false h2) ?_
      conv => whnf
      refine splT (decide_eq_true h3) ?_
      conv => whnf
      (repeat (refine ⟨by kernel_rfl, ?_⟩; (conv => whnf))); refine callF un ⟨.refl _, .refl _, .refl _, trivial⟩ (by trivial) rfl ?_
      conv => whnf
      (repeat (refine ⟨by kernel_rfl, ?_⟩; (conv => whnf)))
      refine ⟨(by (try simp only [true_and, and_true, Nat.sub_zero, Nat.zero_add, Int.toNat_natCast]) <;> omega), ?_⟩
      exact .refl _
    | true =>
    rw [hi] at un
    by_cases hC : C = 0
    · refine acall_rule env [0, 1, 2, 3, 4, 5, 11, 12, 36, 57] Tryz.func78 rfl rfl rfl rfl ?_
      conv => whnf
      (repeat (refine ⟨by kernel_rfl, ?_⟩; (conv => whnf))); refine callF sg ⟨.refl _, trivial⟩ (by trivial) rfl ?_
      conv => whnf
      refine splF (decide_eq_false h1) ?_
      conv => whnf
      refine splF (decide_eq_false h2) ?_
      conv => whnf
      refine splT (decide_eq_true h3) ?_
      conv => whnf
      (repeat (refine ⟨by kernel_rfl, ?_⟩; (conv => whnf))); refine callF un ⟨.refl _, .refl _, .refl _, trivial⟩ (by trivial) rfl ?_
      conv => whnf
      refine splT (decide_eq_true hC) ?_
      conv => whnf
      refine ⟨(by (try simp only [true_and, and_true, Nat.sub_zero, Nat.zero_add, Int.toNat_natCast]) <;> omega), ?_⟩
      exact .bool_of (by rw [decide_eq_true hC]; exact decide_eq_decide.2 (by omega))
    · refine acall_rule env [0, 1, 2, 3, 4, 5, 11, 12, 36, 57] Tryz.func78 rfl rfl rfl rfl ?_
      conv => whnf
      (repeat (refine ⟨by kernel_rfl, ?_⟩; (conv => whnf))); refine callF sg ⟨.refl _, trivial⟩ (by trivial) rfl ?_
      conv => whnf
      refine splF (decide_eq_false h1) ?_
      conv => whnf
      refine splF (decide_eq_false h2) ?_
      conv => whnf
      refine splT (decide_eq_true h3) ?_
      conv => whnf
      (repeat (refine ⟨by kernel_rfl, ?_⟩; (conv => whnf))); refine callF un ⟨.refl _, .refl _, .refl _, trivial⟩ (by trivial) rfl ?_
      conv => whnf
      refine splF (decide_eq_false hC) ?_
      conv => whnf
      refine ⟨(by (try simp only [true_and, and_true, Nat.sub_zero, Nat.zero_add, Int.toNat_natCast]) <;> omega), ?_⟩
      exact .bool_of (by simp [hC])
  · rw [if_neg h3]
    refine acall_rule env [0, 1, 2, 3, 4, 5, 11, 12, 36, 57] Tryz.func78 rfl rfl rfl rfl ?_
    conv => whnf
    (repeat (refine ⟨by kernel_rfl, ?_⟩; (conv => whnf))); refine callF sg ⟨.refl _, trivial⟩ (by trivial) rfl ?_
    conv => whnf
    refine splF (decide_eq_false h1) ?_
    conv => whnf
    refine splF (decide_eq_false h2) ?_
    conv => whnf
    refine splF (decide_eq_false h3) ?_
    conv => whnf
    (repeat (refine ⟨by kernel_rfl, ?_⟩; (conv => whnf)))
    refine ⟨(by (try simp only [true_and, and_true, Nat.sub_zero, Nat.zero_add, Int.toNat_natCast]) <;> omega), ?_⟩
    exact .refl _
theorem agrees_ok {p : Pr} (hp : p.H) {x y r : Nat → RR} {nx ny nr : Nat} (hx : XH x nx) (hy : XH y ny) (hr : XH r nr) {v : RR} (hv : v.Ok) (hvs : v.sz ≤ 1048576) {s : So} (hs : s.H) :
    ACall Tryz.prog 39 [p.a, rats x nx, rats y ny, rats r nr, v.a, s.a] (.f (.bool true)) := by
  have a1 := cOptimal_ok hp hx hy
  have a2 := refOptimal_ok hp hx hy
  have b1 := cAtLeast_rr hp hy hv hvs
  have b2 := refAtLeast_rr hp hy hv hvs
  have c1 := cInfeasible_ok hp hy
  have c2 := refInfeasible_ok hp hy
  have d1 := cUnbounded_ok hp hx hr
  have d2 := refUnbounded_ok hp hx hr
  have e1 := cSolution_ok hp hs
  have e2 := refSolution_ok hp hs
  generalize p.opt x nx y ny = A at *
  generalize p.atl y ny v = B at *
  generalize p.inf y ny = C at *
  generalize p.unb x nx r nr = D at *
  generalize p.sol s = E at *
  refine acall_rule env [0, 1, 2, 3, 4, 5, 6, 10, 11, 12] Tryz.func39 rfl rfl rfl rfl ?_
  conv => whnf
  (repeat (refine ⟨by kernel_rfl, ?_⟩; (conv => whnf))); refine callF a1 ⟨.refl _, .refl _, .refl _, trivial⟩ (by trivial) rfl ?_
  conv => whnf
  (repeat (refine ⟨by kernel_rfl, ?_⟩; (conv => whnf))); refine callF a2 ⟨.refl _, .refl _, .refl _, trivial⟩ (by trivial) rfl ?_
  conv => whnf
  refine splT (by simp) ?_
  conv => whnf
  (repeat (refine ⟨by kernel_rfl, ?_⟩; (conv => whnf))); refine callF b1 ⟨.refl _, .refl _, .refl _, trivial⟩ (by trivial) rfl ?_
  conv => whnf
  (repeat (refine ⟨by kernel_rfl, ?_⟩; (conv => whnf))); refine callF b2 ⟨.refl _, .refl _, .refl _, trivial⟩ (by trivial) rfl ?_
  conv => whnf
  refine splT (by simp) ?_
  conv => whnf
  (repeat (refine ⟨by kernel_rfl, ?_⟩; (conv => whnf))); refine callF c1 ⟨.refl _, .refl _, trivial⟩ (by trivial) rfl ?_
  conv => whnf
  (repeat (refine ⟨by kernel_rfl, ?_⟩; (conv => whnf))); refine callF c2 ⟨.refl _, .refl _, trivial⟩ (by trivial) rfl ?_
  conv => whnf
  refine splT (by simp) ?_
  conv => whnf
  (repeat (refine ⟨by kernel_rfl, ?_⟩; (conv => whnf))); refine callF d1 ⟨.refl _, .refl _, .refl _, trivial⟩ (by trivial) rfl ?_
  conv => whnf
  (repeat (refine ⟨by kernel_rfl, ?_⟩; (conv => whnf))); refine callF d2 ⟨.refl _, .refl _, .refl _, trivial⟩ (by trivial) rfl ?_
  conv => whnf
  refine splT (by simp) ?_
  conv => whnf
  (repeat (refine ⟨by kernel_rfl, ?_⟩; (conv => whnf))); refine callF e1 ⟨.refl _, .refl _, trivial⟩ (by trivial) rfl ?_
  conv => whnf
  (repeat (refine ⟨by kernel_rfl, ?_⟩; (conv => whnf))); refine callF e2 ⟨.refl _, .refl _, trivial⟩ (by trivial) rfl ?_
  conv => whnf
  refine ⟨by kernel_rfl, ?_⟩
  conv => whnf
  refine ⟨(by (try simp only [true_and, and_true, Nat.sub_zero, Nat.zero_add, Int.toNat_natCast]) <;> omega), ?_⟩
  exact .bool_of (by simp)
/-- a solution of which no more than some is looked at -/
def So.cut (s : So) : So := ⟨s.st, s.v, s.x, min s.nx 20, s.y, min s.ny 20, s.r, min s.nr 20, fun _ => 0, 0, fun _ => 0, 0⟩
theorem So.cut_H {s : So} (h : s.H) : s.cut.H := ⟨h.st, h.v, h.vs, h.x.le (Nat.min_le_left _ _), h.y.le (Nat.min_le_left _ _), h.r.le (Nat.min_le_left _ _)⟩
/-- the generated solution -/
def genSo (k : Nat) (v : Rat) (a b c : Nat → RR) (nc nr : Nat) : So :=
  if k = 2 then ⟨k, RR.nil, a, 0, b, nr, c, 0, fun _ => 0, 0, fun _ => 0, 0⟩ else if k = 3 then ⟨k, RR.nil, a, nc, b, 0, c, nc, fun _ => 0, 0, fun _ => 0, 0⟩
  else ⟨k, RR.of v, a, nc, b, nr, c, 0, fun _ => 0, 0, fun _ => 0, 0⟩
theorem genSo_H {k : Nat} {v : Rat} {a b c : Nat → RR} {nc nr : Nat} (hk : k < 4) (hv : rsz v ≤ 1) (ha : XH a nc) (hb : XH b nr) (hc : XH c nc) : (genSo k v a b c nc nr).H := by
  unfold genSo
  have hk2 : I64 (k : Int) := ⟨by omega, by omega⟩
  split
  · exact ⟨hk2, RR.nil_ok, by rw [RR.nil_sz]; omega, ha.le (Nat.zero_le _), hb, hc.le (Nat.zero_le _)⟩
  · split
    · exact ⟨hk2, RR.nil_ok, by rw [RR.nil_sz]; omega, ha, hb.le (Nat.zero_le _), hc⟩
    · exact ⟨hk2, RR.of_ok _, by rw [RR.of_sz]; omega, ha, hb, hc.le (Nat.zero_le _)⟩
theorem CertifyExact_ok {p : Pr} (hp : p.H) {x y r : Nat → RR} {nx ny nr : Nat} (hx : XH x nx) (hy : XH y ny) (hr : XH r nr) {v : RR} (hv : v.Ok) (hvs : v.sz ≤ 1048576) {s : So} (hs : s.H)
    (g h : Nat → Int) (n m : Nat) (hn : n ≤ 1099511627776) (hm : m ≤ 1099511627776) :
    ACall Tryz.prog 8 [p.a, rats x nx, rats y ny, rats r nr, v.a, s.a, nums g n, nums h m] (.f (.bool true)) := by
  have aw := awake12_ok
  have sm := lawSmall12_ok hp
  have bx := hx.n
  have bY := hy.n
  have br := hr.n
  have b1 := hs.x.n
  have b2 := hs.y.n
  have b3 := hs.r.n
  have fx := hFirst_ok x nx 20 (by omega) (by omega)
  have fy := hFirst_ok y ny 20 (by omega) (by omega)
  have fr := hFirst_ok r nr 20 (by omega) (by omega)
  have f1 := hFirst_ok s.x s.nx 20 (by omega) (by omega)
  have f2 := hFirst_ok s.y s.ny 20 (by omega) (by omega)
  have f3 := hFirst_ok s.r s.nr 20 (by omega) (by omega)
  have ag1 := agrees_ok hp (hx.le (Nat.min_le_left nx 20)) (hy.le (Nat.min_le_left ny 20)) (hr.le (Nat.min_le_left nr 20)) hv hvs (So.cut_H hs)
  have g1 := gProgram_ok g n hn
  have t1 := gNew_ok h m
  obtain ⟨s1, s2, s3⟩ := tPr_small g n 0
  have hq := gen_H g n
  generalize tPr g n 0 4 4 = q at *
  have r1 := gRats_ok h m 0 q.nc hm (Nat.zero_le _) (by omega)
  have l1 := tpos_le (n := m) (Nat.zero_le m) q.nc
  have x1 := gen_XH h m 0 q.nc (by omega)
  generalize tpos m q.nc 0 = i1 at *
  have r2 := gRats_ok h m i1 q.nr hm l1 (by omega)
  have l2 := tpos_le (n := m) l1 q.nr
  have x2 := gen_XH h m i1 q.nr (by omega)
  generalize tpos m q.nr i1 = i2 at *
  have r3 := gRats_ok h m i2 q.nc hm l2 (by omega)
  have l3 := tpos_le (n := m) l2 q.nc
  have x3 := gen_XH h m i2 q.nc (by omega)
  generalize tpos m q.nc i2 = i3 at *
  have n1 := gNext_ok h m i3 4 (by decide) (by decide) hm l3
  have l4 := tstep_le l3
  have hk := tnext_range h m i3 (N := 4) (by decide)
  obtain ⟨k, hk'⟩ : ∃ k : Nat, tnext h m i3 4 = k := ⟨(tnext h m i3 4).toNat, by omega⟩
  rw [hk'] at n1 hk
  generalize tstep m i3 = i4 at *
  have m1 := gRat_ok h m i4 hm l4
  have l5 := tN2_le l4
  have z1 := tR_sz h m i4
  generalize tN2 m i4 = i5 at *
  have m2 := gRat_ok h m i5 hm l5
  have z2 := tR_sz h m i5
  generalize tN2 m i5 = i6 at *
  generalize tR h m i4 = V1 at *
  generalize tR h m i5 = V2 at *
  have ag2 := agrees_ok hq x1 x2 x3 (RR.of_ok V2) (by rw [RR.of_sz]; omega) (genSo_H (k := k) (by omega) z1 x1 x2 x3)
  rw [RR.of_a] at ag2
  generalize tRats h m 0 = A at *
  generalize tRats h m i1 = B at *
  generalize tRats h m i2 = C at *
  unfold genSo at ag2
  unfold So.cut at ag1
  generalize smallB p = sB at *
  by_cases k2 : k = 2
  · rw [if_pos k2] at ag2
    refine acall_rule env [0, 1, 2, 3, 4, 5, 6, 7, 8, 12, 13, 16, 17, 18, 19, 20, 21, 22, 70, 71, 77] Tryz.func8 rfl rfl rfl rfl ?_
    conv => whnf
    (repeat (refine ⟨by kernel_rfl, ?_⟩; (conv => whnf))); refine callF fx ⟨.refl _, .refl _, trivial⟩ (by trivial) rfl ?_
    conv => whnf
    (repeat (refine ⟨by kernel_rfl, ?_⟩; (conv => whnf))); refine callF fy ⟨.refl _, .refl _, trivial⟩ (by trivial) rfl ?_
    conv => whnf
    (repeat (refine ⟨by kernel_rfl, ?_⟩; (conv => whnf))); refine callF fr ⟨.refl _, .refl _, trivial⟩ (by trivial) rfl ?_
    conv => whnf
    (repeat (refine ⟨by kernel_rfl, ?_⟩; (conv => whnf))); refine callF f1 ⟨.refl _, .refl _, trivial⟩ (by trivial) rfl ?_
    conv => whnf
    (repeat (refine ⟨by kernel_rfl, ?_⟩; (conv => whnf))); refine callF f2 ⟨.refl _, .refl _, trivial⟩ (by trivial) rfl ?_
    conv => whnf
    (repeat (refine ⟨by kernel_rfl, ?_⟩; (conv => whnf))); refine callF f3 ⟨.refl _, .refl _, trivial⟩ (by trivial) rfl ?_
    conv => whnf
    refine ⟨by kernel_rfl, ?_⟩
    conv => whnf
    (repeat (refine ⟨by kernel_rfl, ?_⟩; (conv => whnf))); refine callF g1 ⟨.refl _, trivial⟩ (by trivial) rfl ?_
    conv => whnf
    refine callR [] t1 ?_
    conv => whnf
    refine ⟨⟨.refl _, trivial⟩, trivial, ?_⟩
    conv => whnf
    refine callR [46] r1 ?_
    conv => whnf
    refine ⟨⟨⟨rfl, rfl⟩, .refl _, trivial⟩, ⟨⟨.refl _, .refl _, trivial⟩, trivial⟩, ?_⟩
    conv => whnf
    refine callR [46] r2 ?_
    conv => whnf
    refine ⟨⟨⟨rfl, rfl⟩, .refl _, trivial⟩, ⟨⟨.refl _, .refl _, trivial⟩, trivial⟩, ?_⟩
    conv => whnf
    refine callR [46] r3 ?_
    conv => whnf
    refine ⟨⟨⟨rfl, rfl⟩, .refl _, trivial⟩, ⟨⟨.refl _, .refl _, trivial⟩, trivial⟩, ?_⟩
    conv => whnf
    refine ⟨by kernel_rfl, ?_⟩
    conv => whnf
    refine callR [46] n1 ?_
    conv => whnf
    refine ⟨⟨⟨rfl, rfl⟩, .refl _, trivial⟩, ⟨⟨.refl _, .refl _, trivial⟩, trivial⟩, ?_⟩
    conv => whnf
    refine callR [46] m1 ?_
    conv => whnf
    refine ⟨⟨⟨rfl, rfl⟩, trivial⟩, ⟨⟨.refl _, .refl _, trivial⟩, trivial⟩, ?_⟩
    conv => whnf
    refine splT (decide_eq_true (by omega)) ?_
    conv => whnf
    (repeat (refine ⟨by kernel_rfl, ?_⟩; (conv => whnf))); refine callF aw trivial (by trivial) rfl ?_
    conv => whnf
    (repeat (refine ⟨by kernel_rfl, ?_⟩; (conv => whnf))); refine callF sm ⟨.refl _, trivial⟩ (by trivial) rfl ?_
    conv => whnf
    cases sB
    · refine callR [46] m2 ?_
      conv => whnf
      refine ⟨⟨⟨rfl, rfl⟩, trivial⟩, ⟨⟨.refl _, .refl _, trivial⟩, trivial⟩, ?_⟩
      conv => whnf
      refine callF ag2 ⟨.refl _, .refl _, .refl _, .refl _, .refl _, .agg ⟨.refl _, .refl _, .f .nil, .f .nil, .f .nil, .refl _, .f .nil, .f .nil, .f .nil, trivial⟩, trivial⟩ (by trivial) rfl ?_
      conv => whnf
      refine ⟨by kernel_rfl, ?_⟩
      conv => whnf
      (repeat (refine ⟨by kernel_rfl, ?_⟩; (conv => whnf)))
      refine ⟨(by (try simp only [true_and, and_true, Nat.sub_zero, Nat.zero_add, Int.toNat_natCast]) <;> omega), ?_⟩
      exact .refl _
    · refine callF ag1 ⟨.refl _, .refl _, .refl _, .refl _, .refl _, .agg ⟨.refl _, .refl _, .refl _, .refl _, .refl _, .refl _, .refl _, .f .nil, .f .nil, trivial⟩, trivial⟩ (by trivial) rfl ?_
      conv => whnf
      refine callR [46] m2 ?_
      conv => whnf
      refine ⟨⟨⟨rfl, rfl⟩, trivial⟩, ⟨⟨.refl _, .refl _, trivial⟩, trivial⟩, ?_⟩
      conv => whnf
      refine callF ag2 ⟨.refl _, .refl _, .refl _, .refl _, .refl _, .agg ⟨.refl _, .refl _, .f .nil, .f .nil, .f .nil, .refl _, .f .nil, .f .nil, .f .nil, trivial⟩, trivial⟩ (by trivial) rfl ?_
      conv => whnf
      refine ⟨by kernel_rfl, ?_⟩
      conv => whnf
      (repeat (refine ⟨by kernel_rfl, ?_⟩; (conv => whnf)))
      refine ⟨(by (try simp only [true_and, and_true, Nat.sub_zero, Nat.zero_add, Int.toNat_natCast]) <;> omega), ?_⟩
      exact .refl _
  rw [if_neg k2] at ag2
  by_cases k3 : k = 3
  · rw [if_pos k3] at ag2
    refine acall_rule env [0, 1, 2, 3, 4, 5, 6, 7, 8, 12, 13, 16, 17, 18, 19, 20, 21, 22, 70, 71, 77] Tryz.func8 rfl rfl rfl rfl ?_
    conv => whnf
    (repeat (refine ⟨by kernel_rfl, ?_⟩; (conv => whnf))); refine callF fx ⟨.refl _, .refl _, trivial⟩ (by trivial) rfl ?_
    conv => whnf
    (repeat (refine ⟨by kernel_rfl, ?_⟩; (conv => whnf))); refine callF fy ⟨.refl _, .refl _, trivial⟩ (by trivial) rfl ?_
    conv => whnf
    (repeat (refine ⟨by kernel_rfl, ?_⟩; (conv => whnf))); refine callF fr ⟨.refl _, .refl _, trivial⟩ (by trivial) rfl ?_
    conv => whnf
    (repeat (refine ⟨by kernel_rfl, ?_⟩; (conv => whnf))); refine callF f1 ⟨.refl _, .refl _, trivial⟩ (by trivial) rfl ?_
    conv => whnf
    (repeat (refine ⟨by kernel_rfl, ?_⟩; (conv => whnf))); refine callF f2 ⟨.refl _, .refl _, trivial⟩ (by trivial) rfl ?_
    conv => whnf
    (repeat (refine ⟨by kernel_rfl, ?_⟩; (conv => whnf))); refine callF f3 ⟨.refl _, .refl _, trivial⟩ (by trivial) rfl ?_
    conv => whnf
    refine ⟨by kernel_rfl, ?_⟩
    conv => whnf
    (repeat (refine ⟨by kernel_rfl, ?_⟩; (conv => whnf))); refine callF g1 ⟨.refl _, trivial⟩ (by trivial) rfl ?_
    conv => whnf
    refine callR [] t1 ?_
    conv => whnf
    refine ⟨⟨.refl _, trivial⟩, trivial, ?_⟩
    conv => whnf
    refine callR [46] r1 ?_
    conv => whnf
    refine ⟨⟨⟨rfl, rfl⟩, .refl _, trivial⟩, ⟨⟨.refl _, .refl _, trivial⟩, trivial⟩, ?_⟩
    conv => whnf
    refine callR [46] r2 ?_
    conv => whnf
    refine ⟨⟨⟨rfl, rfl⟩, .refl _, trivial⟩, ⟨⟨.refl _, .refl _, trivial⟩, trivial⟩, ?_⟩
    conv => whnf
    refine callR [46] r3 ?_
    conv => whnf
    refine ⟨⟨⟨rfl, rfl⟩, .refl _, trivial⟩, ⟨⟨.refl _, .refl _, trivial⟩, trivial⟩, ?_⟩
    conv => whnf
    refine ⟨by kernel_rfl, ?_⟩
    conv => whnf
    refine callR [46] n1 ?_
    conv => whnf
    refine ⟨⟨⟨rfl, rfl⟩, .refl _, trivial⟩, ⟨⟨.refl _, .refl _, trivial⟩, trivial⟩, ?_⟩
    conv => whnf
    refine callR [46] m1 ?_
    conv => whnf
    refine ⟨⟨⟨rfl, rfl⟩, trivial⟩, ⟨⟨.refl _, .refl _, trivial⟩, trivial⟩, ?_⟩
    conv => whnf
    refine splF (decide_eq_false (by omega)) ?_
    conv => whnf
    refine splT (decide_eq_true (by omega)) ?_
    conv => whnf
    (repeat (refine ⟨by kernel_rfl, ?_⟩; (conv => whnf))); refine callF aw trivial (by trivial) rfl ?_
    conv => whnf
    (repeat (refine ⟨by kernel_rfl, ?_⟩; (conv => whnf))); refine callF sm ⟨.refl _, trivial⟩ (by trivial) rfl ?_
    conv => whnf
    cases sB
    · refine callR [46] m2 ?_
      conv => whnf
      refine ⟨⟨⟨rfl, rfl⟩, trivial⟩, ⟨⟨.refl _, .refl _, trivial⟩, trivial⟩, ?_⟩
      conv => whnf
      refine callF ag2 ⟨.refl _, .refl _, .refl _, .refl _, .refl _, .agg ⟨.refl _, .refl _, .f .nil, .f .nil, .refl _, .f .nil, .refl _, .f .nil, .f .nil, trivial⟩, trivial⟩ (by trivial) rfl ?_
      conv => whnf
      refine ⟨by kernel_rfl, ?_⟩
      conv => whnf
      (repeat (refine ⟨by kernel_rfl, ?_⟩; (conv => whnf)))
      refine ⟨(by (try simp only [true_and, and_true, Nat.sub_zero, Nat.zero_add, Int.toNat_natCast]) <;> omega), ?_⟩
      exact .refl _
    · refine callF ag1 ⟨.refl _, .refl _, .refl _, .refl _, .refl _, .agg ⟨.refl _, .refl _, .refl _, .refl _, .refl _, .refl _, .refl _, .f .nil, .f .nil, trivial⟩, trivial⟩ (by trivial) rfl ?_
      conv => whnf
      refine callR [46] m2 ?_
      conv => whnf
      refine ⟨⟨⟨rfl, rfl⟩, trivial⟩, ⟨⟨.refl _, .refl _, trivial⟩, trivial⟩, ?_⟩
      conv => whnf
      refine callF ag2 ⟨.refl _, .refl _, .refl _, .refl _, .refl _, .agg ⟨.refl _, .refl _, .f .nil, .f .nil, .refl _, .f .nil, .refl _, .f .nil, .f .nil, trivial⟩, trivial⟩ (by trivial) rfl ?_
      conv => whnf
      refine ⟨by kernel_rfl, ?_⟩
      conv => whnf
      (repeat (refine ⟨by kernel_rfl, ?_⟩; (conv => whnf)))
      refine ⟨(by (try simp only [true_and, and_true, Nat.sub_zero, Nat.zero_add, Int.toNat_natCast]) <;> omega), ?_⟩
      exact .refl _
  rw [if_neg k3] at ag2
  refine acall_rule env [0, 1, 2, 3, 4, 5, 6, 7, 8, 12, 13, 16, 17, 18, 19, 20, 21, 22, 70, 71, 77] Tryz.func8 rfl rfl rfl rfl ?_
  conv => whnf
  (repeat (refine ⟨by kernel_rfl, ?_⟩; (conv => whnf))); refine callF fx ⟨.refl _, .refl _, trivial⟩ (by trivial) rfl ?_
  conv => whnf
  (repeat (refine ⟨by kernel_rfl, ?_⟩; (conv => whnf))); refine callF fy ⟨.refl _, .refl _, trivial⟩ (by trivial) rfl ?_
  conv => whnf
  (repeat (refine ⟨by kernel_rfl, ?_⟩; (conv => whnf))); refine callF fr ⟨.refl _, .refl _, trivial⟩ (by trivial) rfl ?_
  conv => whnf
  (repeat (refine ⟨by kernel_rfl, ?_⟩; (conv => whnf))); refine callF f1 ⟨.refl _, .refl _, trivial⟩ (by trivial) rfl ?_
  conv => whnf
  (repeat (refine ⟨by kernel_rfl, ?_⟩; (conv => whnf))); refine callF f2 ⟨.refl _, .refl _, trivial⟩ (by trivial) rfl ?_
  conv => whnf
  (repeat (refine ⟨by kernel_rfl, ?_⟩; (conv => whnf))); refine callF f3 ⟨.refl _, .refl _, trivial⟩ (by trivial) rfl ?_
  conv => whnf
  refine ⟨by kernel_rfl, ?_⟩
  conv => whnf
  (repeat (refine ⟨by kernel_rfl, ?_⟩; (conv => whnf))); refine callF g1 ⟨.refl _, trivial⟩ (by trivial) rfl ?_
  conv => whnf
  refine callR [] t1 ?_
  conv => whnf
  refine ⟨⟨.refl _, trivial⟩, trivial, ?_⟩
  conv => whnf
  refine callR [46] r1 ?_
  conv => whnf
  refine ⟨⟨⟨rfl, rfl⟩, .refl _, trivial⟩, ⟨⟨.refl _, .refl _, trivial⟩, trivial⟩, ?_⟩
  conv => whnf
  refine callR [46] r2 ?_
  conv => whnf
  refine ⟨⟨⟨rfl, rfl⟩, .refl _, trivial⟩, ⟨⟨.refl _, .refl _, trivial⟩, trivial⟩, ?_⟩
  conv => whnf
  refine callR [46] r3 ?_
  conv => whnf
  refine ⟨⟨⟨rfl, rfl⟩, .refl _, trivial⟩, ⟨⟨.refl _, .refl _, trivial⟩, trivial⟩, ?_⟩
  conv => whnf
  refine ⟨by kernel_rfl, ?_⟩
  conv => whnf
  refine callR [46] n1 ?_
  conv => whnf
  refine ⟨⟨⟨rfl, rfl⟩, .refl _, trivial⟩, ⟨⟨.refl _, .refl _, trivial⟩, trivial⟩, ?_⟩
  conv => whnf
  refine callR [46] m1 ?_
  conv => whnf
  refine ⟨⟨⟨rfl, rfl⟩, trivial⟩, ⟨⟨.refl _, .refl _, trivial⟩, trivial⟩, ?_⟩
  conv => whnf
  refine splF (decide_eq_false (by omega)) ?_
  conv => whnf
  refine splF (decide_eq_false (by omega)) ?_
  conv => whnf
  (repeat (refine ⟨by kernel_rfl, ?_⟩; (conv => whnf))); refine callF aw trivial (by trivial) rfl ?_
  conv => whnf
  (repeat (refine ⟨by kernel_rfl, ?_⟩; (conv => whnf))); refine callF sm ⟨.refl _, trivial⟩ (by trivial) rfl ?_
  conv => whnf
  cases sB
  · refine callR [46] m2 ?_
    conv => whnf
    refine ⟨⟨⟨rfl, rfl⟩, trivial⟩, ⟨⟨.refl _, .refl _, trivial⟩, trivial⟩, ?_⟩
    conv => whnf
    refine callF ag2 ⟨.refl _, .refl _, .refl _, .refl _, .refl _, .agg ⟨.refl _, .refl _, .refl _, .refl _, .refl _, .refl _, .f .nil, .f .nil, .f .nil, trivial⟩, trivial⟩ (by trivial) rfl ?_
    conv => whnf
    refine ⟨by kernel_rfl, ?_⟩
    conv => whnf
    (repeat (refine ⟨by kernel_rfl, ?_⟩; (conv => whnf)))
    refine ⟨(by (try simp only [true_and, and_true, Nat.sub_zero, Nat.zero_add, Int.toNat_natCast]) <;> omega), ?_⟩
    exact .refl _
  · refine callF ag1 ⟨.refl _, .refl _, .refl _, .refl _, .refl _, .agg ⟨.refl _, .refl _, .refl _, .refl _, .refl _, .refl _, .refl _, .f .nil, .f .nil, trivial⟩, trivial⟩ (by trivial) rfl ?_
    conv => whnf
    refine callR [46] m2 ?_
    conv => whnf
    refine ⟨⟨⟨rfl, rfl⟩, trivial⟩, ⟨⟨.refl _, .refl _, trivial⟩, trivial⟩, ?_⟩
    conv => whnf
    refine callF ag2 ⟨.refl _, .refl _, .refl _, .refl _, .refl _, .agg ⟨.refl _, .refl _, .refl _, .refl _, .refl _, .refl _, .f .nil, .f .nil, .f .nil, trivial⟩, trivial⟩ (by trivial) rfl ?_
    conv => whnf
    refine ⟨by kernel_rfl, ?_⟩
    conv => whnf
    (repeat (refine ⟨by kernel_rfl, ?_⟩; (conv => whnf)))
    refine ⟨(by (try simp only [true_and, and_true, Nat.sub_zero, Nat.zero_add, Int.toNat_natCast]) <;> omega), ?_⟩
    exact .refl _
end Go.Abs

/- What comes in: lists of limbs, integers. -/
set_option autoImplicit false
set_option maxHeartbeats 4000000
set_option linter.unusedVariables false
set_option linter.unusedSimpArgs false
namespace Go.Abs
open Go Go.Proofs

theorem dec_limbs {c : List FV} {n : Nat} (h : Fits tab 30 c n) : ∃ (g : Nat → Nat) (m : Nat), Dig g m ∧ m + 1 ≤ n ∧ All2 FVle c [.sl 1 (fun j => [.int .u32 (g j : Nat)]) m none] := by
  obtain ⟨te, at_, len, bs, he, rfl, hel, hn⟩ := h.inv rfl
  have hte : te = ⟨.int .u32, 1, 4, [.int .u32 0]⟩ := by cases he; rfl
  have hx : ∀ i, i < len → ∃ x : Nat, x < 4294967296 ∧ at_ i = [.int .u32 (x : Int)] := by
    intro i hi
    have := (hel i hi).inv he
    subst hte
    obtain ⟨z, h1, h2, h3⟩ := this
    refine ⟨z.toNat, ?_, ?_⟩
    · have : z ≤ 4294967295 := h3
      have : 0 ≤ z := h2
      omega
    · have : 0 ≤ z := h2
      rw [h1, Int.toNat_of_nonneg this]
  obtain ⟨g, hg⟩ := pickF hx
  refine ⟨g, len, fun i hi => (hg i hi).1, ?_, ?_, trivial⟩
  · have := len_le_sumTo (bs := bs) (n := len) fun i hi => (hel i hi).pos
    omega
  · subst hte
    refine .sl (fun i hi => ?_) (.inl rfl)
    rw [(hg i hi).2]
    exact ⟨.refl _, trivial⟩

theorem dec_Int {c : List FV} {n : Nat} (h : Fits tab 32 c n) : ∃ (neg : Bool) (g : Nat → Nat) (m : Nat), Dig g m ∧ m + 1 ≤ n ∧ All2 FVle c [.bool neg, .sl 1 (fun j => [.int .u32 (g j : Nat)]) m none] := by
  obtain ⟨m0, hf, hn⟩ := h.inv rfl
  obtain ⟨a, b, c1, c2, h1, h2, rfl, rfl⟩ := hf.inv
  obtain ⟨a2, b2, c3, c4, h3, h4, rfl, rfl⟩ := h2.inv
  obtain ⟨rfl, rfl⟩ := h4.inv0
  obtain ⟨neg, rfl⟩ := h1.inv rfl
  obtain ⟨g, m, hg, hm, hle⟩ := dec_limbs h3
  refine ⟨neg, g, m, hg, by omega, ?_⟩
  rw [List.append_nil]
  exact ⟨.refl _, hle⟩

theorem all2_fle_fL : ∀ {c c' : List FV}, All2 FVle c c' → All2 AVle (fL c) (fL c')
  | [], [], _ => by simp [fL, All2]
  | x :: r, y :: r', ⟨a, b⟩ => by simp only [fL]; exact ⟨.f a, all2_fle_fL b⟩
  | [], _ :: _, h => h.elim
  | _ :: _, [], h => h.elim
theorem AVle.of_fL {c c' : List FV} (h : All2 FVle c c') : AVle (.agg (fL c)) (.agg (fL c')) := .agg (all2_fle_fL h)
theorem par_Int {c : List FV} {n : Nat} (h : Fits tab 32 c n) : ∃ (x : AV) (z : Int), IsI x z n ∧ AVle (.agg (fL c)) x := by
  obtain ⟨neg, g, m, hg, hm, hle⟩ := dec_Int h
  exact ⟨_, _, .mk neg g m n hg (by omega), .of_fL hle⟩
theorem par_limbs {c : FV} {n : Nat} (h : Fits tab 30 [c] n) : ∃ (g : Nat → Nat) (m : Nat), Dig g m ∧ m ≤ n ∧ AVle (.f c) (raw g m) := by
  obtain ⟨g, m, hg, hm, hle⟩ := dec_limbs h
  exact ⟨g, m, hg, by omega, .f hle.1⟩
theorem par_int {c : FV} {n : Nat} (h : Fits tab 3 [c] n) : ∃ z : Int, (-9223372036854775808 ≤ z ∧ z ≤ 9223372036854775807) ∧ AVle (.f c) (.f (.int .i64 z)) := by
  obtain ⟨z, hc, h1, h2⟩ := h.inv rfl
  cases hc
  exact ⟨z, ⟨h1, h2⟩, .refl _⟩
end Go.Abs

/- What comes in: rational numbers. -/
set_option autoImplicit false
set_option maxHeartbeats 4000000
set_option linter.unusedVariables false
set_option linter.unusedSimpArgs false
namespace Go.Abs
open Go Go.Proofs

theorem all2_app {α β : Type} {R : α → β → Prop} : ∀ {a : List α} {b : List β} {c : List α} {d : List β}, All2 R a b → All2 R c d → All2 R (a ++ c) (b ++ d)
  | [], [], _, _, _, h => h
  | _ :: _, _ :: _, _, _, ⟨h1, h2⟩, h => ⟨h1, all2_app h2 h⟩
  | [], _ :: _, _, _, h, _ => h.elim
  | _ :: _, [], _, _, h, _ => h.elim
theorem dec_Rat {c : List FV} {n : Nat} (h : Fits tab 34 c n) : ∃ (neg : Bool) (g : Nat → Nat) (m : Nat) (g' : Nat → Nat) (m' : Nat), Dig g m ∧ Dig g' m' ∧ m + m' + 3 ≤ n ∧ All2 FVle c [.bool neg, .sl 1 (fun j => [.int .u32 (g j : Nat)]) m none, .sl 1 (fun j => [.int .u32 (g' j : Nat)]) m' none] := by
  obtain ⟨m0, hf, hn⟩ := h.inv rfl
  obtain ⟨a, b, c1, c2, h1, h2, rfl, rfl⟩ := hf.inv
  obtain ⟨a2, b2, c3, c4, h3, h4, rfl, rfl⟩ := h2.inv
  obtain ⟨rfl, rfl⟩ := h4.inv0
  obtain ⟨neg, g, m, hg, hm, hle⟩ := dec_Int h1
  obtain ⟨g', m', hg', hm', hle'⟩ := dec_limbs h3
  refine ⟨neg, g, m, g', m', hg, hg', by omega, ?_⟩
  rw [List.append_nil]
  exact all2_app hle hle'
theorem par_Rat {c : List FV} {n : Nat} (h : Fits tab 34 c n) : ∃ (x : AV) (q : Rat), IsR x q n ∧ AVle (.agg (fL c)) x := by
  obtain ⟨neg, g, m, g', m', hg, hg', hm, hle⟩ := dec_Rat h
  exact ⟨_, _, .mk neg g m g' m' n hg hg' (by omega) (by omega) (by omega), .of_fL hle⟩
theorem par_uint32 {c : FV} {n : Nat} (h : Fits tab 112 [c] n) : ∃ z : Int, (0 ≤ z ∧ z ≤ 4294967295) ∧ AVle (.f c) (.f (.int .u32 z)) := by
  obtain ⟨z, hc, h1, h2⟩ := h.inv rfl
  cases hc
  exact ⟨z, ⟨h1, h2⟩, .refl _⟩
theorem par_uint8 {c : FV} {n : Nat} (h : Fits tab 5 [c] n) : ∃ z : Int, (0 ≤ z ∧ z ≤ 255) ∧ AVle (.f c) (.f (.int .u8 z)) := by
  obtain ⟨z, hc, h1, h2⟩ := h.inv rfl
  cases hc
  exact ⟨z, ⟨h1, h2⟩, .refl _⟩
theorem par_bool {c : FV} {n : Nat} (h : Fits tab 4 [c] n) : ∃ b : Bool, AVle (.f c) (.f (.bool b)) := by
  obtain ⟨b, hc⟩ := h.inv rfl
  cases hc
  exact ⟨b, .refl _⟩
end Go.Abs

/- What comes in: lists of numbers, small numbers. -/
set_option autoImplicit false
set_option maxHeartbeats 4000000
set_option linter.unusedVariables false
set_option linter.unusedSimpArgs false
namespace Go.Abs
open Go Go.Proofs

theorem par_ints {c : FV} {n : Nat} (h : Fits tab 42 [c] n) : ∃ (g : Nat → Int) (m : Nat), (∀ i, i < m → -9223372036854775808 ≤ g i ∧ g i ≤ 9223372036854775807) ∧ m ≤ n ∧ AVle (.f c) (.f (.sl 1 (fun j => [.int .i64 (g j)]) m none)) := by
  obtain ⟨te, at_, len, bs, he, hc, hel, hn⟩ := h.inv rfl
  cases hc
  have hte : te = ⟨.int .i64, 1, 8, [.int .i64 0]⟩ := by cases he; rfl
  have hx : ∀ i, i < len → ∃ x : Int, (-9223372036854775808 ≤ x ∧ x ≤ 9223372036854775807) ∧ at_ i = [.int .i64 x] := by
    intro i hi
    have := (hel i hi).inv he
    subst hte
    obtain ⟨z, h1, h2, h3⟩ := this
    exact ⟨z, ⟨h2, h3⟩, h1⟩
  obtain ⟨g, hg⟩ := pickF hx
  refine ⟨g, len, fun i hi => (hg i hi).1, ?_, .f ?_⟩
  · have := len_le_sumTo (bs := bs) (n := len) fun i hi => (hel i hi).pos
    omega
  · subst hte
    refine .sl (fun i hi => ?_) (.inl rfl)
    rw [(hg i hi).2]
    exact ⟨.refl _, trivial⟩
end Go.Abs

/- What comes in: lists of rational numbers, linear programs. -/
set_option autoImplicit false
set_option maxHeartbeats 4000000
set_option linter.unusedVariables false
set_option linter.unusedSimpArgs false
namespace Go.Abs
open Go Go.Proofs

instance : Inhabited RR := ⟨RR.nil⟩
instance : Inhabited En := ⟨⟨0, RR.nil⟩⟩
instance : Inhabited Ro := ⟨⟨0, RR.nil, fun _ => default, 0⟩⟩
instance : Inhabited Co := ⟨⟨RR.nil, false, RR.nil, false, RR.nil⟩⟩
theorem nsum_sumTo {f bs : Nat → Nat} : ∀ {n : Nat}, (∀ i, i < n → f i ≤ bs i) → nsum f n ≤ sumTo bs n
  | 0, _ => Nat.le_refl _
  | n + 1, h => by
    have := nsum_sumTo (n := n) (fun i hi => h i (by omega))
    have := h n (by omega)
    simp only [nsum, sumTo]; omega
theorem dec_RR {c : List FV} {n : Nat} (h : Fits tab 34 c n) : ∃ r : RR, (r.Ok ∧ r.sz + 1 ≤ n) ∧ All2 FVle c r.c := by
  obtain ⟨neg, g, m, g', m', hg, hg', hm, hle⟩ := dec_Rat h
  exact ⟨⟨neg, g, m, g', m'⟩, ⟨⟨hg, hg'⟩, by unfold RR.sz; simp only; omega⟩, hle⟩
theorem par_Rats {c : FV} {n : Nat} (h : Fits tab 26 [c] n) (hn : n ≤ 1048576) : ∃ (x : Nat → RR) (m : Nat), XH x m ∧ m + nsum (fun j => (x j).sz) m + 1 ≤ n ∧ AVle (.f c) (rats x m) := by
  obtain ⟨te, at_, len, bs, he, hc, hel, hs⟩ := h.inv rfl
  cases hc
  have hte : te.size = 3 := by cases he; rfl
  have hx : ∀ i, i < len → ∃ r : RR, (r.Ok ∧ r.sz + 1 ≤ bs i) ∧ All2 FVle (at_ i) r.c := fun i hi => dec_RR (hel i hi)
  obtain ⟨x, hx⟩ := pickF hx
  have h1 : nsum (fun j => (x j).sz + 1) len ≤ sumTo bs len := nsum_sumTo fun i hi => (hx i hi).1.2
  have e : nsum (fun j => (x j).sz + 1) len = nsum (fun j => (x j).sz) len + nsum (fun _ => 1) len := by rw [nsum_add]
  have e2 := nsum_const 1 len
  refine ⟨x, len, ⟨fun j hj => (hx j hj).1.1, fun j hj => ?_, by omega, by omega⟩, by omega, .f ?_⟩
  · have h3 : (x j).sz ≤ nsum (fun j => (x j).sz) len := nsum_get (f := fun j => (x j).sz) hj
    omega
  · rw [hte]
    exact .sl (fun i hi => (hx i hi).2) (.inl rfl)
theorem dec_En {c : List FV} {n : Nat} (h : Fits tab 83 c n) : ∃ e : En, (e.Ok ∧ e.v.sz + 1 ≤ n) ∧ All2 FVle c e.c := by
  obtain ⟨m0, hf, hn⟩ := h.inv rfl
  obtain ⟨a, b, c1, c2, h1, h2, rfl, rfl⟩ := hf.inv
  obtain ⟨a2, b2, c3, c4, h3, h4, rfl, rfl⟩ := h2.inv
  obtain ⟨rfl, rfl⟩ := h4.inv0
  obtain ⟨z, rfl, p1, p2⟩ := h1.inv rfl
  obtain ⟨r, ⟨hr, hs⟩, hle⟩ := dec_RR h3
  refine ⟨⟨z, r⟩, ⟨⟨⟨p1, p2⟩, hr⟩, by simp only; omega⟩, ?_⟩
  rw [List.append_nil]
  exact ⟨.refl _, hle⟩
theorem dec_Ro {c : List FV} {n : Nat} (h : Fits tab 49 c n) : ∃ r : Ro, (r.Ok ∧ r.sz ≤ n ∧ r.k ≤ n) ∧ All2 FVle c r.c := by
  obtain ⟨m0, hf, hn⟩ := h.inv rfl
  obtain ⟨a, b, c1, c2, h1, h2, rfl, rfl⟩ := hf.inv
  obtain ⟨a2, b2, c3, c4, h3, h4, rfl, rfl⟩ := h2.inv
  obtain ⟨a3, b3, c5, c6, h5, h6, rfl, rfl⟩ := h4.inv
  obtain ⟨rfl, rfl⟩ := h6.inv0
  obtain ⟨z, rfl, p1, p2⟩ := h1.inv rfl
  obtain ⟨r, ⟨hr, hs⟩, hle⟩ := dec_RR h3
  obtain ⟨te, at_, len, bs, he, rfl, hel, hsum⟩ := h5.inv rfl
  have hte : te.size = 4 := by cases he; rfl
  have hx : ∀ i, i < len → ∃ e : En, (e.Ok ∧ e.v.sz + 1 ≤ bs i) ∧ All2 FVle (at_ i) e.c := fun i hi => dec_En (hel i hi)
  obtain ⟨e, hx⟩ := pickF hx
  have q1 : nsum (fun j => (e j).v.sz + 1) len ≤ sumTo bs len := nsum_sumTo fun i hi => (hx i hi).1.2
  have q2 := len_le_sumTo (bs := bs) (n := len) fun i hi => (hel i hi).pos
  refine ⟨⟨z, r, e, len⟩, ⟨⟨⟨p1, p2⟩, hr, fun j hj => (hx j hj).1.1⟩, ?_, by simp only; omega⟩, ?_⟩
  · unfold Ro.sz Ro.esz; simp only; omega
  · rw [List.append_nil, hte]
    exact ⟨.refl _, all2_app hle ⟨.sl (fun i hi => (hx i hi).2) (.inl rfl), trivial⟩⟩
theorem dec_Co {c : List FV} {n : Nat} (h : Fits tab 81 c n) : ∃ r : Co, (r.Ok ∧ r.sz ≤ n) ∧ All2 FVle c r.c := by
  obtain ⟨m0, hf, hn⟩ := h.inv rfl
  obtain ⟨a, b, c1, c2, h1, h2, rfl, rfl⟩ := hf.inv
  obtain ⟨a2, b2, c3, c4, h3, h4, rfl, rfl⟩ := h2.inv
  obtain ⟨a3, b3, c5, c6, h5, h6, rfl, rfl⟩ := h4.inv
  obtain ⟨a4, b4, c7, c8, h7, h8, rfl, rfl⟩ := h6.inv
  obtain ⟨a5, b5, c9, c10, h9, h10, rfl, rfl⟩ := h8.inv
  obtain ⟨rfl, rfl⟩ := h10.inv0
  obtain ⟨r1, ⟨hr1, hs1⟩, hle1⟩ := dec_RR h1
  obtain ⟨r2, ⟨hr2, hs2⟩, hle2⟩ := dec_RR h5
  obtain ⟨r3, ⟨hr3, hs3⟩, hle3⟩ := dec_RR h9
  obtain ⟨f1, rfl⟩ := h3.inv rfl
  obtain ⟨f2, rfl⟩ := h7.inv rfl
  refine ⟨⟨r1, f1, r2, f2, r3⟩, ⟨⟨hr1, hr2, hr3⟩, by unfold Co.sz; simp only; omega⟩, ?_⟩
  rw [List.append_nil]
  exact all2_app hle1 ⟨.refl _, all2_app hle2 ⟨.refl _, hle3⟩⟩
theorem par_Prog {c : List FV} {n : Nat} (h : Fits tab 25 c n) (hn : n ≤ 1048576) : ∃ p : Pr, p.H ∧ AVle (.agg (fL c)) p.a := by
  obtain ⟨m0, hf, hm⟩ := h.inv rfl
  obtain ⟨a, b, c1, c2, h1, h2, rfl, rfl⟩ := hf.inv
  obtain ⟨a2, b2, c3, c4, h3, h4, rfl, rfl⟩ := h2.inv
  obtain ⟨rfl, rfl⟩ := h4.inv0
  obtain ⟨te, at_, len, bs, he, rfl, hel, hsum⟩ := h1.inv rfl
  obtain ⟨te2, at2, len2, bs2, he2, rfl, hel2, hsum2⟩ := h3.inv rfl
  have hte : te.size = 11 := by cases he; rfl
  have hte2 : te2.size = 5 := by cases he2; rfl
  have hx : ∀ i, i < len → ∃ r : Co, (r.Ok ∧ r.sz ≤ bs i) ∧ All2 FVle (at_ i) r.c := fun i hi => dec_Co (hel i hi)
  have hy : ∀ i, i < len2 → ∃ r : Ro, (r.Ok ∧ r.sz ≤ bs2 i ∧ r.k ≤ bs2 i) ∧ All2 FVle (at2 i) r.c := fun i hi => dec_Ro (hel2 i hi)
  obtain ⟨x, hx⟩ := pickF hx
  obtain ⟨y, hy⟩ := pickF hy
  have q1 : nsum (fun j => (x j).sz) len ≤ sumTo bs len := nsum_sumTo fun i hi => (hx i hi).1.2
  have q2 : nsum (fun j => (y j).sz) len2 ≤ sumTo bs2 len2 := nsum_sumTo fun i hi => (hy i hi).1.2.1
  have q3 := len_le_sumTo (bs := bs) (n := len) fun i hi => (hel i hi).pos
  have q4 := len_le_sumTo (bs := bs2) (n := len2) fun i hi => (hel2 i hi).pos
  have q5 : ∀ i, i < len2 → (y i).k ≤ 1048576 := fun i hi => by
    have := (hy i hi).1.2.2
    have := sumTo_le (bs := bs2) hi
    omega
  refine ⟨⟨x, len, y, len2⟩, ⟨⟨fun j hj => (hx j hj).1.1, fun i hi => (hy i hi).1.1⟩, ?_, fun i hi => by have := q5 i hi; simp only; omega, by simp only; omega, by simp only; omega⟩, ?_⟩
  · unfold Pr.sz; simp only; omega
  · rw [hte, hte2]
    exact .agg ⟨.f (.sl (fun i hi => (hx i hi).2) (.inl rfl)), .f (.sl (fun i hi => (hy i hi).2) (.inl rfl)), trivial⟩
end Go.Abs

/- What comes in: small numbers of sixteen bits, solutions. -/
set_option autoImplicit false
set_option maxHeartbeats 4000000
set_option linter.unusedVariables false
set_option linter.unusedSimpArgs false
namespace Go.Abs
open Go Go.Proofs

theorem all2_avle : ∀ {l l' : List FV}, All2 FVle l l' → All2 AVle (fL l) (fL l')
  | [], [], _ => trivial
  | _ :: _, _ :: _, h => ⟨.f h.1, all2_avle h.2⟩
  | [], _ :: _, h => h.elim
  | _ :: _, [], h => h.elim
theorem par_RR {c : List FV} {n : Nat} (h : Fits tab 34 c n) (hn : n ≤ 1048576) : ∃ r : RR, (r.Ok ∧ r.sz ≤ 1048576) ∧ AVle (.agg (fL c)) r.a := by
  obtain ⟨r, ⟨h1, h2⟩, h3⟩ := dec_RR h
  exact ⟨r, ⟨h1, by omega⟩, .agg (all2_avle h3)⟩
theorem par_uint16 {c : FV} {n : Nat} (h : Fits tab 63 [c] n) : ∃ z : Int, (0 ≤ z ∧ z ≤ 65535) ∧ AVle (.f c) (.f (.int .u16 z)) := by
  obtain ⟨z, hc, h1, h2⟩ := h.inv rfl
  cases hc
  exact ⟨z, ⟨h1, h2⟩, .refl _⟩
theorem dec_Rats {c : List FV} {n : Nat} (h : Fits tab 26 c n) (hn : n ≤ 1048576) : ∃ (x : Nat → RR) (m : Nat), (XH x m ∧ m + nsum (fun j => (x j).sz) m + 1 ≤ n) ∧ All2 FVle c [.sl 3 (fun j => (x j).c) m none] := by
  obtain ⟨te, at_, len, bs, he, hc, hel, hs⟩ := h.inv rfl
  have hte : te.size = 3 := by cases he; rfl
  have hx : ∀ i, i < len → ∃ r : RR, (r.Ok ∧ r.sz + 1 ≤ bs i) ∧ All2 FVle (at_ i) r.c := fun i hi => dec_RR (hel i hi)
  obtain ⟨x, hx⟩ := pickF hx
  have h1 : nsum (fun j => (x j).sz + 1) len ≤ sumTo bs len := nsum_sumTo fun i hi => (hx i hi).1.2
  have e : nsum (fun j => (x j).sz + 1) len = nsum (fun j => (x j).sz) len + nsum (fun _ => 1) len := by rw [nsum_add]
  have e2 := nsum_const 1 len
  refine ⟨x, len, ⟨⟨fun j hj => (hx j hj).1.1, fun j hj => ?_, by omega, by omega⟩, by omega⟩, ?_⟩
  · have h3 : (x j).sz ≤ nsum (fun j => (x j).sz) len := nsum_get (f := fun j => (x j).sz) hj
    omega
  · rw [hc, hte]
    exact ⟨.sl (fun i hi => (hx i hi).2) (.inl rfl), trivial⟩
theorem dec_ints {c : List FV} {n : Nat} (h : Fits tab 42 c n) : ∃ (g : Nat → Int) (m : Nat), All2 FVle c [.sl 1 (fun j => [.int .i64 (g j)]) m none] := by
  obtain ⟨te, at_, len, bs, he, hc, hel, hn⟩ := h.inv rfl
  have hte : te = ⟨.int .i64, 1, 8, [.int .i64 0]⟩ := by cases he; rfl
  have hx : ∀ i, i < len → ∃ x : Int, at_ i = [.int .i64 x] := by
    intro i hi
    have := (hel i hi).inv he
    subst hte
    obtain ⟨z, h1, h2, h3⟩ := this
    exact ⟨z, h1⟩
  obtain ⟨g, hg⟩ := pickF hx
  refine ⟨g, len, ?_⟩
  subst hte
  rw [hc]
  refine ⟨.sl (fun i hi => ?_) (.inl rfl), trivial⟩
  rw [hg i hi]
  exact ⟨.refl _, trivial⟩
theorem par_Sol {c : List FV} {n : Nat} (h : Fits tab 69 c n) (hn : n ≤ 1048576) : ∃ s : So, s.H ∧ AVle (.agg (fL c)) s.a := by
  obtain ⟨m0, hf, hm⟩ := h.inv rfl
  obtain ⟨a1, b1, c1, r1, h1, k1, rfl, rfl⟩ := hf.inv
  obtain ⟨a2, b2, c2, r2, h2, k2, rfl, rfl⟩ := k1.inv
  obtain ⟨a3, b3, c3, r3, h3, k3, rfl, rfl⟩ := k2.inv
  obtain ⟨a4, b4, c4, r4, h4, k4, rfl, rfl⟩ := k3.inv
  obtain ⟨a5, b5, c5, r5, h5, k5, rfl, rfl⟩ := k4.inv
  obtain ⟨a6, b6, c6, r6, h6, k6, rfl, rfl⟩ := k5.inv
  obtain ⟨rfl, rfl⟩ := k6.inv0
  obtain ⟨m7, hf7, _⟩ := h6.inv rfl
  obtain ⟨a8, b8, c8, r8, h8, k8, rfl, rfl⟩ := hf7.inv
  obtain ⟨a9, b9, c9, r9, h9, k9, rfl, rfl⟩ := k8.inv
  obtain ⟨rfl, rfl⟩ := k9.inv0
  obtain ⟨g1, n1, le8⟩ := dec_ints h8
  obtain ⟨g2, n2, le9⟩ := dec_ints h9
  obtain ⟨z, rfl, p1, p2⟩ := h1.inv rfl
  obtain ⟨v, ⟨hv, hvs⟩, le2⟩ := dec_RR h2
  obtain ⟨x, nx, ⟨hx, _⟩, le3⟩ := dec_Rats h3 (by omega)
  obtain ⟨y, ny, ⟨hy, _⟩, le4⟩ := dec_Rats h4 (by omega)
  obtain ⟨r, nr, ⟨hr, _⟩, le5⟩ := dec_Rats h5 (by omega)
  refine ⟨⟨z, v, x, nx, y, ny, r, nr, g1, n1, g2, n2⟩, ⟨⟨p1, p2⟩, hv, by simp only; omega, hx, hy, hr⟩, ?_⟩
  rw [List.append_nil, List.append_nil]
  exact .agg <| all2_avle ⟨.refl _, all2_app le2 (all2_app le3 (all2_app le4 (all2_app le5 (all2_app le8 le9))))⟩
end Go.Abs
