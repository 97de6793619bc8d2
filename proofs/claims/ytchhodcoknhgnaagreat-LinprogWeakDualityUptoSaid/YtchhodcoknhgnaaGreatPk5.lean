/- Contracts of the functions that the law calls, and the logic in which they are proved: part 5. -/
import Derived.Test.YtchhodcoknhgnaaGreatPk4
/- Laws of layer 11: weak duality, convexity. -/
set_option autoImplicit false
set_option maxHeartbeats 4000000
set_option maxRecDepth 10000
set_option linter.unusedVariables false
set_option linter.unusedSimpArgs false
namespace Go.Abs
open Go Go.Proofs

theorem lawWeak_ok {p : Pr} (hp : p.H) {x y : Nat → RR} {nx ny : Nat} (hx : XH x nx) (hy : XH y ny) : ACall Tryz.prog 18 [p.a, rats x nx, rats y ny] (.f (.bool true)) := by
  have b1 := lpBound_ok hp hy
  have f1 := lpFeasible_ok hp hx
  have o1 := lpObjective_ok hp hx
  unfold bndRes at b1
  cases hb : p.bndOk y ny with
  | false =>
    rw [hb, if_neg (by simp)] at b1
    refine acall_rule env [0, 1, 2, 3, 6, 7, 8, 9, 10, 24] Tryz.func18 rfl rfl rfl rfl ?_
    conv => whnf
    first | refine callF b1 ⟨.refl _, .refl _, trivial⟩ (by trivial) rfl ?_ | ((repeat (refine ⟨by kernel_rfl, ?_⟩; (conv => whnf))); refine callF b1 ⟨.refl _, .refl _, trivial⟩ (by trivial) rfl ?_)
    conv => whnf
    (repeat (refine ⟨by kernel_rfl, ?_⟩; (conv => whnf)))
    refine ⟨(by (try simp only [true_and, and_true, Nat.sub_zero, Nat.zero_add, Int.toNat_natCast]) <;> omega), ?_⟩
    exact .refl _
  | true =>
    rw [hb, if_pos rfl] at b1
    cases hf : p.feas x nx with
    | false =>
      rw [hf] at f1
      refine acall_rule env [0, 1, 2, 3, 6, 7, 8, 9, 10, 24] Tryz.func18 rfl rfl rfl rfl ?_
      conv => whnf
      first | refine callF b1 ⟨.refl _, .refl _, trivial⟩ (by trivial) rfl ?_ | ((repeat (refine ⟨by kernel_rfl, ?_⟩; (conv => whnf))); refine callF b1 ⟨.refl _, .refl _, trivial⟩ (by trivial) rfl ?_)
      conv => whnf
      first | refine callF f1 ⟨.refl _, .refl _, trivial⟩ (by trivial) rfl ?_ | ((repeat (refine ⟨by kernel_rfl, ?_⟩; (conv => whnf))); refine callF f1 ⟨.refl _, .refl _, trivial⟩ (by trivial) rfl ?_)
      conv => whnf
      (repeat (refine ⟨by kernel_rfl, ?_⟩; (conv => whnf)))
      refine ⟨(by (try simp only [true_and, and_true, Nat.sub_zero, Nat.zero_add, Int.toNat_natCast]) <;> omega), ?_⟩
      exact .refl _
    | true =>
      rw [hf] at f1
      have hw := weak_duality hf hb
      obtain ⟨he, hn, _⟩ := feas_facts hf
      rw [objRes, if_neg (fun h => h (errS_zero.2 ⟨he, hn⟩))] at o1
      have hbz : rsz (p.bnd y) ≤ 618760568836 := bnd_sz hp hy hb
      have hoz : rsz (p.obj x) ≤ 137455730690 := obj_sz hp hx he hn
      have c1 := sCompare_ok (isR_rat _ hoz) (isR_rat _ hbz) (by omega)
      have hc : rcmp (p.obj x) (p.bnd y) ≥ 0 := by have := rcmp_le.2 hw; rw [rcmp_neg] at this; omega
      generalize rcmp (p.obj x) (p.bnd y) = C at *
      generalize p.obj x = q at *
      generalize p.bnd y = r at *
      refine acall_rule env [0, 1, 2, 3, 6, 7, 8, 9, 10, 24] Tryz.func18 rfl rfl rfl rfl ?_
      conv => whnf
      first | refine callF b1 ⟨.refl _, .refl _, trivial⟩ (by trivial) rfl ?_ | ((repeat (refine ⟨by kernel_rfl, ?_⟩; (conv => whnf))); refine callF b1 ⟨.refl _, .refl _, trivial⟩ (by trivial) rfl ?_)
      conv => whnf
      first | refine callF f1 ⟨.refl _, .refl _, trivial⟩ (by trivial) rfl ?_ | ((repeat (refine ⟨by kernel_rfl, ?_⟩; (conv => whnf))); refine callF f1 ⟨.refl _, .refl _, trivial⟩ (by trivial) rfl ?_)
      conv => whnf
      first | refine callF o1 ⟨.refl _, .refl _, trivial⟩ (by trivial) rfl ?_ | ((repeat (refine ⟨by kernel_rfl, ?_⟩; (conv => whnf))); refine callF o1 ⟨.refl _, .refl _, trivial⟩ (by trivial) rfl ?_)
      conv => whnf
      first | refine callF c1 ⟨.refl _, .refl _, trivial⟩ (by trivial) rfl ?_ | ((repeat (refine ⟨by kernel_rfl, ?_⟩; (conv => whnf))); refine callF c1 ⟨.refl _, .refl _, trivial⟩ (by trivial) rfl ?_)
      conv => whnf
      refine ⟨(by (try simp only [true_and, and_true, Nat.sub_zero, Nat.zero_add, Int.toNat_natCast]) <;> omega), ?_⟩
      exact .bool_of (decide_eq_true hc)
/-- a multiplier with the sign that its row requires -/
def sgnR (p : Pr) (y : Nat → RR) (j : Nat) : RR := if signB (p.r j).s (y j).v then y j else RR.of (-(y j).v)
theorem sgnR_xh {p : Pr} {y : Nat → RR} {n : Nat} (h1 : ∀ j, j < n → (y j).Ok) (h2 : ∀ j, j < n → (y j).sz ≤ 4096) (h3 : n ≤ 64) : XH (sgnR p y) n := by
  refine xh_of (fun j hj => ?_) (fun j hj => ?_) h3
  · unfold sgnR; split
    · exact h1 j hj
    · exact RR.of_ok _
  · unfold sgnR; split
    · exact h2 j hj
    · rw [RR.of_sz, rsz_neg]; exact Nat.le_trans (h1 j hj).size (h2 j hj)
theorem lawSigned_ok {p : Pr} (hp : p.H) {y : Nat → RR} (hy : ∀ j, j < p.nr → (y j).Ok) (hs : ∀ j, j < p.nr → (y j).sz ≤ 4096) : ACall Tryz.prog 16 [p.a, rats y p.nr] (rats (sgnR p y) p.nr) := by
  have hnr := hp.r
  refine acall_rule env [0, 1, 2, 4, 5, 6, 7, 8, 12, 40] Tryz.func16 rfl rfl rfl rfl ?_
  conv => whnf
  refine .weak (nil_weak 5 46 3 (by decide) rfl rfl) ?_
  refine loop_mod [1, 2, 5, 6] [2, 46] [5] [46]
    (fun μ fr hp_ => ∃ i : Nat, i ≤ p.nr ∧ fr = [(1, rats y p.nr), bpk 2 2, (5, .lsl 46 1 3 0 i none), (6, .f (.int .i64 i))] ∧
      hp_ = [bxk 2 [.f (.sl 11 (fun j => (p.c j).c) p.nc none), .f (.sl 5 (fun i => (p.r i).c) p.nr none)], (46, 1, .fa 3 i (fun q => (sgnR p y q).c))] ∧ μ = p.nr - i)
    (fun e fr hp_ => e = .exit 0 ∧ fr = [(5, .lsl 46 1 3 0 p.nr none)] ∧ hp_ = [(46, 1, .fa 3 p.nr (fun q => (sgnR p y q).c))])
    ⟨_, _, _, _, rfl, ?_, 0, Nat.zero_le _, rfl, rfl, rfl⟩ ?_ ?_
  · exact ⟨⟨rfl, rfl⟩, .refl _, ⟨rfl, rfl⟩, .fa fun j hj => absurd hj (Nat.not_lt_zero _), trivial⟩
  · rintro _ _ _ ⟨rfl, rfl, rfl⟩
    conv => whnf
    refine ⟨(by (try simp only [true_and, and_true, Nat.sub_zero, Nat.zero_add, Int.toNat_natCast]) <;> omega), ?_⟩
    exact .f (.sl (fun j hj => by simp only [Nat.zero_add]; exact .fle_rr _) (.inl rfl))
  rintro μ _ _ ⟨i, hi, rfl, rfl, rfl⟩
  by_cases hik : i < p.nr
  · have zy := hs i hik
    have s1 := sSign_ok (hy i hik).is (by omega)
    have n1 := sNeg_ok (hy i hik).is (by omega)
    have hsb : signB (p.r i).s (y i).v = !((decide ((p.r i).s = -1) && decide (0 < (y i).v)) || (decide ((p.r i).s = 1) && decide ((y i).v < 0))) := rfl
    have hR : sgnR p y i = if signB (p.r i).s (y i).v then y i else RR.of (-(y i).v) := rfl
    have q1 : decide (0 < (y i).v) = decide (rcmp (y i).v 0 > 0) := decide_eq_decide.2 rcmp_pos.symm
    have q2 : decide ((y i).v < 0) = decide (rcmp (y i).v 0 < 0) := decide_eq_decide.2 (by
      constructor
      · intro h; rw [rcmp_lt h]; decide
      · intro h; exact Rat.not_le.1 fun h' => by have := rcmp_le.2 h'; rw [rcmp_neg] at this; omega)
    rw [q1, q2] at hsb
    generalize rcmp (y i).v 0 = C at *
    clear q1 q2
    by_cases a1 : (p.r i).s = -1
    · by_cases a2 : C > 0
      · have hv : signB (p.r i).s (y i).v = false := by rw [hsb, decide_eq_true a1, decide_eq_true a2]; rfl
        have hsg : sgnR p y i = RR.of (-(y i).v) := by rw [hR, hv]; rfl
        conv => whnf
        refine splT (by simp only [decide_eq_true_eq, decide_eq_false_iff_not, Bool.not_eq_true', Bool.not_eq_false', gt_iff_lt, ge_iff_le] <;> omega) ?_
        conv => whnf
        refine ⟨(by (try simp only [true_and, and_true, Nat.sub_zero, Nat.zero_add, Int.toNat_natCast]) <;> omega), ?_⟩
        conv => whnf
        refine ⟨(by (try simp only [true_and, and_true, Nat.sub_zero, Nat.zero_add, Int.toNat_natCast]) <;> omega), ?_⟩
        conv => whnf
        refine splT (decide_eq_true a1) ?_
        conv => whnf
        first | refine callF s1 ⟨.refl _, trivial⟩ (by trivial) rfl ?_ | ((repeat (refine ⟨by kernel_rfl, ?_⟩; (conv => whnf))); refine callF s1 ⟨.refl _, trivial⟩ (by trivial) rfl ?_)
        conv => whnf
        refine splT (decide_eq_true a2) ?_
        conv => whnf
        first | refine callF n1 ⟨.refl _, trivial⟩ (by trivial) rfl ?_ | ((repeat (refine ⟨by kernel_rfl, ?_⟩; (conv => whnf))); refine callF n1 ⟨.refl _, trivial⟩ (by trivial) rfl ?_)
        conv => whnf
        refine ⟨⟨(show 1 ≤ 3 / 3 - 0 by decide), by omega, by omega, (show (i + 1) * 56 ≤ 140737488355328 by omega)⟩, ?_⟩
        conv => whnf
        refine fit64 (by omega) ?_
        conv => whnf
        refine ⟨_, ?_, _, _, [bxk 2 [.f (.sl 11 (fun j => (p.c j).c) p.nc none), .f (.sl 5 (fun i => (p.r i).c) p.nr none)], (46, 1, .fa 3 (i + 1) (fun q => (sgnR p y q).c))], rfl, ⟨⟨rfl, rfl⟩, .refl _, ⟨rfl, rfl⟩, .fa fun q hq => more_rr (f := sgnR p y) hq (by rw [hsg]; rfl), trivial⟩, i + 1, hik, rfl, rfl, rfl⟩
        omega
      · have hv : signB (p.r i).s (y i).v = true := by rw [hsb, decide_eq_false a2, decide_eq_false (show ¬ (p.r i).s = 1 by omega)]; simp
        have hsg : sgnR p y i = y i := by rw [hR, hv]; rfl
        conv => whnf
        refine splT (by simp only [decide_eq_true_eq, decide_eq_false_iff_not, Bool.not_eq_true', Bool.not_eq_false', gt_iff_lt, ge_iff_le] <;> omega) ?_
        conv => whnf
        refine ⟨(by (try simp only [true_and, and_true, Nat.sub_zero, Nat.zero_add, Int.toNat_natCast]) <;> omega), ?_⟩
        conv => whnf
        refine ⟨(by (try simp only [true_and, and_true, Nat.sub_zero, Nat.zero_add, Int.toNat_natCast]) <;> omega), ?_⟩
        conv => whnf
        refine splT (decide_eq_true a1) ?_
        conv => whnf
        first | refine callF s1 ⟨.refl _, trivial⟩ (by trivial) rfl ?_ | ((repeat (refine ⟨by kernel_rfl, ?_⟩; (conv => whnf))); refine callF s1 ⟨.refl _, trivial⟩ (by trivial) rfl ?_)
        conv => whnf
        refine splF (decide_eq_false a2) ?_
        conv => whnf
        refine splF (decide_eq_false (show ¬ (p.r i).s = 1 by omega)) ?_
        conv => whnf
        refine ⟨⟨(show 1 ≤ 3 / 3 - 0 by decide), by omega, by omega, (show (i + 1) * 56 ≤ 140737488355328 by omega)⟩, ?_⟩
        conv => whnf
        refine fit64 (by omega) ?_
        conv => whnf
        refine ⟨_, ?_, _, _, [bxk 2 [.f (.sl 11 (fun j => (p.c j).c) p.nc none), .f (.sl 5 (fun i => (p.r i).c) p.nr none)], (46, 1, .fa 3 (i + 1) (fun q => (sgnR p y q).c))], rfl, ⟨⟨rfl, rfl⟩, .refl _, ⟨rfl, rfl⟩, .fa fun q hq => more_rr (f := sgnR p y) hq (by rw [hsg]; rfl), trivial⟩, i + 1, hik, rfl, rfl, rfl⟩
        omega
    · by_cases a3 : (p.r i).s = 1
      · by_cases a4 : C < 0
        · have hv : signB (p.r i).s (y i).v = false := by rw [hsb, decide_eq_true a3, decide_eq_true a4]; simp
          have hsg : sgnR p y i = RR.of (-(y i).v) := by rw [hR, hv]; rfl
          conv => whnf
          refine splT (by simp only [decide_eq_true_eq, decide_eq_false_iff_not, Bool.not_eq_true', Bool.not_eq_false', gt_iff_lt, ge_iff_le] <;> omega) ?_
          conv => whnf
          refine ⟨(by (try simp only [true_and, and_true, Nat.sub_zero, Nat.zero_add, Int.toNat_natCast]) <;> omega), ?_⟩
          conv => whnf
          refine ⟨(by (try simp only [true_and, and_true, Nat.sub_zero, Nat.zero_add, Int.toNat_natCast]) <;> omega), ?_⟩
          conv => whnf
          refine splF (decide_eq_false a1) ?_
          conv => whnf
          refine splT (decide_eq_true a3) ?_
          conv => whnf
          first | refine callF s1 ⟨.refl _, trivial⟩ (by trivial) rfl ?_ | ((repeat (refine ⟨by kernel_rfl, ?_⟩; (conv => whnf))); refine callF s1 ⟨.refl _, trivial⟩ (by trivial) rfl ?_)
          conv => whnf
          refine splT (decide_eq_true a4) ?_
          conv => whnf
          first | refine callF n1 ⟨.refl _, trivial⟩ (by trivial) rfl ?_ | ((repeat (refine ⟨by kernel_rfl, ?_⟩; (conv => whnf))); refine callF n1 ⟨.refl _, trivial⟩ (by trivial) rfl ?_)
          conv => whnf
          refine ⟨⟨(show 1 ≤ 3 / 3 - 0 by decide), by omega, by omega, (show (i + 1) * 56 ≤ 140737488355328 by omega)⟩, ?_⟩
          conv => whnf
          refine fit64 (by omega) ?_
          conv => whnf
          refine ⟨_, ?_, _, _, [bxk 2 [.f (.sl 11 (fun j => (p.c j).c) p.nc none), .f (.sl 5 (fun i => (p.r i).c) p.nr none)], (46, 1, .fa 3 (i + 1) (fun q => (sgnR p y q).c))], rfl, ⟨⟨rfl, rfl⟩, .refl _, ⟨rfl, rfl⟩, .fa fun q hq => more_rr (f := sgnR p y) hq (by rw [hsg]; rfl), trivial⟩, i + 1, hik, rfl, rfl, rfl⟩
          omega
        · have hv : signB (p.r i).s (y i).v = true := by rw [hsb, decide_eq_false a1, decide_eq_false a4]; simp
          have hsg : sgnR p y i = y i := by rw [hR, hv]; rfl
          conv => whnf
          refine splT (by simp only [decide_eq_true_eq, decide_eq_false_iff_not, Bool.not_eq_true', Bool.not_eq_false', gt_iff_lt, ge_iff_le] <;> omega) ?_
          conv => whnf
          refine ⟨(by (try simp only [true_and, and_true, Nat.sub_zero, Nat.zero_add, Int.toNat_natCast]) <;> omega), ?_⟩
          conv => whnf
          refine ⟨(by (try simp only [true_and, and_true, Nat.sub_zero, Nat.zero_add, Int.toNat_natCast]) <;> omega), ?_⟩
          conv => whnf
          refine splF (decide_eq_false a1) ?_
          conv => whnf
          refine splT (decide_eq_true a3) ?_
          conv => whnf
          first | refine callF s1 ⟨.refl _, trivial⟩ (by trivial) rfl ?_ | ((repeat (refine ⟨by kernel_rfl, ?_⟩; (conv => whnf))); refine callF s1 ⟨.refl _, trivial⟩ (by trivial) rfl ?_)
          conv => whnf
          refine splF (decide_eq_false a4) ?_
          conv => whnf
          refine ⟨⟨(show 1 ≤ 3 / 3 - 0 by decide), by omega, by omega, (show (i + 1) * 56 ≤ 140737488355328 by omega)⟩, ?_⟩
          conv => whnf
          refine fit64 (by omega) ?_
          conv => whnf
          refine ⟨_, ?_, _, _, [bxk 2 [.f (.sl 11 (fun j => (p.c j).c) p.nc none), .f (.sl 5 (fun i => (p.r i).c) p.nr none)], (46, 1, .fa 3 (i + 1) (fun q => (sgnR p y q).c))], rfl, ⟨⟨rfl, rfl⟩, .refl _, ⟨rfl, rfl⟩, .fa fun q hq => more_rr (f := sgnR p y) hq (by rw [hsg]; rfl), trivial⟩, i + 1, hik, rfl, rfl, rfl⟩
          omega
      · have hv : signB (p.r i).s (y i).v = true := by rw [hsb, decide_eq_false a1, decide_eq_false a3]; simp
        have hsg : sgnR p y i = y i := by rw [hR, hv]; rfl
        conv => whnf
        refine splT (by simp only [decide_eq_true_eq, decide_eq_false_iff_not, Bool.not_eq_true', Bool.not_eq_false', gt_iff_lt, ge_iff_le] <;> omega) ?_
        conv => whnf
        refine ⟨(by (try simp only [true_and, and_true, Nat.sub_zero, Nat.zero_add, Int.toNat_natCast]) <;> omega), ?_⟩
        conv => whnf
        refine ⟨(by (try simp only [true_and, and_true, Nat.sub_zero, Nat.zero_add, Int.toNat_natCast]) <;> omega), ?_⟩
        conv => whnf
        refine splF (decide_eq_false a1) ?_
        conv => whnf
        refine splF (decide_eq_false a3) ?_
        conv => whnf
        refine ⟨⟨(show 1 ≤ 3 / 3 - 0 by decide), by omega, by omega, (show (i + 1) * 56 ≤ 140737488355328 by omega)⟩, ?_⟩
        conv => whnf
        refine fit64 (by omega) ?_
        conv => whnf
        refine ⟨_, ?_, _, _, [bxk 2 [.f (.sl 11 (fun j => (p.c j).c) p.nc none), .f (.sl 5 (fun i => (p.r i).c) p.nr none)], (46, 1, .fa 3 (i + 1) (fun q => (sgnR p y q).c))], rfl, ⟨⟨rfl, rfl⟩, .refl _, ⟨rfl, rfl⟩, .fa fun q hq => more_rr (f := sgnR p y) hq (by rw [hsg]; rfl), trivial⟩, i + 1, hik, rfl, rfl, rfl⟩
        omega
  · obtain rfl : i = p.nr := by omega
    conv => whnf
    refine splF (by simp only [decide_eq_true_eq, decide_eq_false_iff_not, Bool.not_eq_true', Bool.not_eq_false', gt_iff_lt, ge_iff_le] <;> omega) ?_
    conv => whnf
    exact ⟨_, _, _, rfl, .refl _, rfl, rfl, rfl⟩
theorem LinprogWeakDuality_ok {p : Pr} (hp : p.H) {x y : Nat → RR} {nx ny : Nat} (hx : XH x nx) (hy : XH y ny) (g h : Nat → Int) (n m : Nat) (hn : n ≤ 1099511627776) (hm : m ≤ 1099511627776) :
    ACall Tryz.prog 4 [p.a, rats x nx, rats y ny, nums g n, nums h m] (.f (.bool true)) := by
  have w1 := lawWeak_ok hp hx hy
  have g1 := gProgram_ok g n hn
  have t1 := gNew_ok h m
  obtain ⟨s1, s2, s3⟩ := tPr_small g n 0
  have hq := gen_H g n
  have r1 := gRats_ok h m 0 (tPr g n 0 4 4).nc hm (Nat.zero_le _) (by omega)
  have r2 := gRats_ok h m (tpos m (tPr g n 0 4 4).nc 0) (tPr g n 0 4 4).nr hm (tpos_le (Nat.zero_le _) _) (by omega)
  have x1 := gen_XH h m 0 (tPr g n 0 4 4).nc (by omega)
  have hsz : ∀ i j, (tRats h m i j).sz ≤ 4096 := fun i j => by show (RR.of _).sz ≤ _; rw [RR.of_sz]; exact Nat.le_trans (tR_sz _ _ _) (by omega)
  have l1 := lawSigned_ok hq (y := tRats h m (tpos m (tPr g n 0 4 4).nc 0)) (fun j _ => RR.of_ok _) (fun j _ => hsz _ _)
  have x2 := sgnR_xh (p := tPr g n 0 4 4) (y := tRats h m (tpos m (tPr g n 0 4 4).nc 0)) (n := (tPr g n 0 4 4).nr) (fun j _ => RR.of_ok _) (fun j _ => hsz _ _) (by omega)
  have w2 := lawWeak_ok hq x1 x2
  generalize tPr g n 0 4 4 = q at *
  generalize tpos m q.nc 0 = i1 at *
  generalize tpos m q.nr i1 = i2 at *
  refine acall_rule env [0, 1, 2, 3, 4, 5, 10, 11, 12] Tryz.func4 rfl rfl rfl rfl ?_
  conv => whnf
  first | refine callF g1 ⟨.refl _, trivial⟩ (by trivial) rfl ?_ | ((repeat (refine ⟨by kernel_rfl, ?_⟩; (conv => whnf))); refine callF g1 ⟨.refl _, trivial⟩ (by trivial) rfl ?_)
  conv => whnf
  refine callR [] t1 ?_
  conv => whnf
  refine ⟨⟨.refl _, trivial⟩, trivial, ?_⟩
  conv => whnf
  first | refine callF awake11_ok trivial (by trivial) rfl ?_ | ((repeat (refine ⟨by kernel_rfl, ?_⟩; (conv => whnf))); refine callF awake11_ok trivial (by trivial) rfl ?_)
  conv => whnf
  first | refine callF w1 ⟨.refl _, .refl _, .refl _, trivial⟩ (by trivial) rfl ?_ | ((repeat (refine ⟨by kernel_rfl, ?_⟩; (conv => whnf))); refine callF w1 ⟨.refl _, .refl _, .refl _, trivial⟩ (by trivial) rfl ?_)
  conv => whnf
  refine callR [16] r1 ?_
  conv => whnf
  refine ⟨⟨⟨rfl, rfl⟩, .refl _, trivial⟩, ⟨⟨.refl _, .refl _, trivial⟩, trivial⟩, ?_⟩
  conv => whnf
  refine callR [16] r2 ?_
  conv => whnf
  refine ⟨⟨⟨rfl, rfl⟩, .refl _, trivial⟩, ⟨⟨.refl _, .refl _, trivial⟩, trivial⟩, ?_⟩
  conv => whnf
  first | refine callF l1 ⟨.refl _, .refl _, trivial⟩ (by trivial) rfl ?_ | ((repeat (refine ⟨by kernel_rfl, ?_⟩; (conv => whnf))); refine callF l1 ⟨.refl _, .refl _, trivial⟩ (by trivial) rfl ?_)
  conv => whnf
  first | refine callF w2 ⟨.refl _, .refl _, .refl _, trivial⟩ (by trivial) rfl ?_ | ((repeat (refine ⟨by kernel_rfl, ?_⟩; (conv => whnf))); refine callF w2 ⟨.refl _, .refl _, .refl _, trivial⟩ (by trivial) rfl ?_)
  conv => whnf
  refine ⟨by kernel_rfl, ?_⟩
  conv => whnf
  (repeat (refine ⟨by kernel_rfl, ?_⟩; (conv => whnf)))
  refine ⟨(by (try simp only [true_and, and_true, Nat.sub_zero, Nat.zero_add, Int.toNat_natCast]) <;> omega), ?_⟩
  exact .refl _

theorem rem9 (w : Int) (h : 0 ≤ w ∧ w ≤ 255) : ∃ v : Nat, (w % 9 : Int) = v ∧ v < 9 := ⟨(w % 9).toNat, by omega, by omega⟩
def mixR (w : Rat) (a b : Nat → RR) (j : Nat) : RR := RR.of (w * (a j).v + (1 - w) * (b j).v)
theorem LinprogConvex_ok (g a1 b1 : Nat → Int) (n na nb : Nat) (w : Int) (hn : n ≤ 1099511627776) (hna : na ≤ 1099511627776) (hnb : nb ≤ 1099511627776) (hw : 0 ≤ w ∧ w ≤ 255) :
    ACall Tryz.prog 5 [nums g n, nums a1 na, nums b1 nb, .f (.int .u8 w)] (.f (.bool true)) := by
  have g1 := gProgram_ok g n hn
  have t1 := gNew_ok a1 na
  have t2 := gNew_ok b1 nb
  obtain ⟨s1, s2, s3⟩ := tPr_small g n 0
  have hq := gen_H g n
  have hqe := (tPr_ok g n 0).2.1
  have r1 := gRats_ok a1 na 0 (tPr g n 0 4 4).nc hna (Nat.zero_le _) (by omega)
  have r2 := gRats_ok b1 nb 0 (tPr g n 0 4 4).nc hnb (Nat.zero_le _) (by omega)
  have x1 := gen_XH a1 na 0 (tPr g n 0 4 4).nc (by omega)
  have x2 := gen_XH b1 nb 0 (tPr g n 0 4 4).nc (by omega)
  have zs : ∀ (h : Nat → Int) m j, rsz (tRats h m 0 j).v ≤ 1 := fun h m j => by show rsz (RR.of _).v ≤ 1; rw [RR.of_v]; exact tR_sz _ _ _
  have z1 := zs a1 na
  have z2 := zs b1 nb
  have hA1 : ∀ j, (tRats a1 na 0 j).Ok := fun j => RR.of_ok _
  have hA2 : ∀ j, (tRats b1 nb 0 j).Ok := fun j => RR.of_ok _
  have hA3 : ∀ j, (tRats a1 na 0 j).sz ≤ 1 := fun j => by show (RR.of _).sz ≤ 1; rw [RR.of_sz]; exact tR_sz _ _ _
  have hA4 : ∀ j, (tRats b1 nb 0 j).sz ≤ 1 := fun j => by show (RR.of _).sz ≤ 1; rw [RR.of_sz]; exact tR_sz _ _ _
  obtain ⟨v, hv, hv9⟩ := rem9 w hw
  have o1 := sOf_ok v 8 (by omega) (by omega)
  have zw : rsz (Rat.divInt v 8) ≤ 1 := rsz_divInt (isz_one (by omega)) (isz_one (by omega)) (Nat.le_refl _)
  have w0 : (0 : Rat) ≤ Rat.divInt v 8 ∧ Rat.divInt v 8 ≤ 1 := by
    rcases (show v = 0 ∨ v = 1 ∨ v = 2 ∨ v = 3 ∨ v = 4 ∨ v = 5 ∨ v = 6 ∨ v = 7 ∨ v = 8 by omega) with h | h | h | h | h | h | h | h | h <;> rw [h] <;> decide +kernel
  have i1 := sFromInt_ok 1 (by decide)
  generalize tRats a1 na 0 = A at *
  generalize tRats b1 nb 0 = B at *
  generalize Rat.divInt v 8 = W at *
  have h1W : rsz (1 - W) ≤ 3 := Nat.le_trans (rsz_sub (show rsz (1 : Rat) ≤ 1 by decide) zw) (by omega)
  have d1 := sSub_ok (isR_rat ((1 : Int) : Rat) (show rsz ((1 : Int) : Rat) ≤ 1 by decide)) (isR_rat W zw) (by omega)
  change ACall Tryz.prog _ _ (rat (1 - W)) at d1
  have m1 := fun j => sMul_ok (isR_rat W zw) (hA1 j).is (by have := hA3 j; omega)
  have m2 := fun j => sMul_ok (isR_rat _ h1W) (hA2 j).is (by have := hA4 j; omega)
  have zm1 : ∀ j, rsz (W * (A j).v) ≤ 2 := fun j => rsz_mul zw (z1 j)
  have zm2 : ∀ j, rsz ((1 - W) * (B j).v) ≤ 4 := fun j => rsz_mul h1W (z2 j)
  have ad := fun j => sAdd_ok (isR_rat _ (zm1 j)) (isR_rat _ (zm2 j)) (by omega)
  have x3 : XH (mixR W A B) (tPr g n 0 4 4).nc := xh_of (fun j _ => RR.of_ok _) (fun j _ => by show (RR.of _).sz ≤ _; rw [RR.of_sz]; exact Nat.le_trans (rsz_add (zm1 j) (zm2 j)) (by omega)) (by omega)
  have hmix : ∀ j, j < (tPr g n 0 4 4).nc → (mixR W A B j).v = W * (A j).v + (1 - W) * (B j).v := fun j _ => RR.of_v _
  have e1 := lpObjective_ok hq x1
  have e2 := lpObjective_ok hq x2
  have e3 := lpObjective_ok hq x3
  have f1 := lpFeasible_ok hq x1
  have f2 := lpFeasible_ok hq x2
  have f3 := lpFeasible_ok hq x3
  rw [objRes, if_neg (fun h => h (errS_zero.2 ⟨hqe, rfl⟩))] at e1 e2 e3
  have y1 := obj_sz hq x1 hqe rfl
  have y2 := obj_sz hq x2 hqe rfl
  have y3 := obj_sz hq x3 hqe rfl
  have ho := obj_mix hmix
  have hf := fun ha hb => feas_mix (n := (tPr g n 0 4 4).nc) w0.1 w0.2 hmix ha hb
  have mn := sMin_ok (isR_rat _ y1) (isR_rat _ y2) (by omega)
  have mx := sMax_ok (isR_rat _ y1) (isR_rat _ y2) (by omega)
  have l1 := rmin_le ((tPr g n 0 4 4).obj A) ((tPr g n 0 4 4).obj B)
  have l2 := rmax_ge ((tPr g n 0 4 4).obj A) ((tPr g n 0 4 4).obj B)
  have zmn : rsz (rmin ((tPr g n 0 4 4).obj A) ((tPr g n 0 4 4).obj B)) ≤ 137455730690 := by rcases l1.2.2 with e | e <;> rw [e] <;> assumption
  have zmx : rsz (rmax ((tPr g n 0 4 4).obj A) ((tPr g n 0 4 4).obj B)) ≤ 137455730690 := by rcases l2.2.2 with e | e <;> rw [e] <;> assumption
  have c1 := sCompare_ok (isR_rat _ y3) (isR_rat _ zmn) (by omega)
  have c2 := sCompare_ok (isR_rat _ y3) (isR_rat _ zmx) (by omega)
  have hc1 : ¬ rcmp ((tPr g n 0 4 4).obj (mixR W A B)) (rmin ((tPr g n 0 4 4).obj A) ((tPr g n 0 4 4).obj B)) < 0 := by
    have : rmin ((tPr g n 0 4 4).obj A) ((tPr g n 0 4 4).obj B) ≤ (tPr g n 0 4 4).obj (mixR W A B) := by rw [ho]; exact mix_ge w0.1 w0.2 l1.1 l1.2.1
    have := rcmp_le.2 this
    rw [rcmp_neg] at this; omega
  have hc2 : ¬ rcmp ((tPr g n 0 4 4).obj (mixR W A B)) (rmax ((tPr g n 0 4 4).obj A) ((tPr g n 0 4 4).obj B)) > 0 := by
    have : (tPr g n 0 4 4).obj (mixR W A B) ≤ rmax ((tPr g n 0 4 4).obj A) ((tPr g n 0 4 4).obj B) := by rw [ho]; exact mix_le w0.1 w0.2 l2.1 l2.2.1
    have := rcmp_le.2 this
    omega
  have hM : ∀ j, W * (A j).v + (1 - W) * (B j).v = (mixR W A B j).v := fun j => (RR.of_v _).symm
  have hMa : ∀ j, (mixR W A B j) = RR.of (W * (A j).v + (1 - W) * (B j).v) := fun j => rfl
  clear ho l1 l2
  generalize tPr g n 0 4 4 = q at *
  generalize mixR W A B = X at *
  generalize q.obj A = oA at *
  generalize q.obj B = oB at *
  generalize q.obj X = oX at *
  generalize rmin oA oB = oN at *
  generalize rmax oA oB = oM at *
  generalize rcmp oX oN = K1 at *
  generalize rcmp oX oM = K2 at *
  generalize tpos na q.nc 0 = ia at *
  generalize tpos nb q.nc 0 = ib at *
  refine acall_rule env [0, 1, 2, 3, 8, 9, 10, 11, 12, 13, 14, 15, 17, 19, 20, 43, 103] Tryz.func5 rfl rfl rfl rfl ?_
  conv => whnf
  first | refine callF g1 ⟨.refl _, trivial⟩ (by trivial) rfl ?_ | ((repeat (refine ⟨by kernel_rfl, ?_⟩; (conv => whnf))); refine callF g1 ⟨.refl _, trivial⟩ (by trivial) rfl ?_)
  conv => whnf
  refine callR [] t1 ?_
  conv => whnf
  refine ⟨⟨.refl _, trivial⟩, trivial, ?_⟩
  conv => whnf
  refine callR [24] r1 ?_
  conv => whnf
  refine ⟨⟨⟨rfl, rfl⟩, .refl _, trivial⟩, ⟨⟨.refl _, .refl _, trivial⟩, trivial⟩, ?_⟩
  conv => whnf
  refine callR [] t2 ?_
  conv => whnf
  refine ⟨⟨.refl _, trivial⟩, trivial, ?_⟩
  conv => whnf
  refine callR [30] r2 ?_
  conv => whnf
  refine ⟨⟨⟨rfl, rfl⟩, .refl _, trivial⟩, ⟨⟨.refl _, .refl _, trivial⟩, trivial⟩, ?_⟩
  conv => whnf
  refine ⟨by kernel_rfl, ?_⟩
  conv => whnf
  refine ⟨by decide, ?_⟩
  conv => whnf
  refine .asV (v : Int) (by rw [Int.tmod_eq_emod_of_nonneg hw.1]; exact hv) ?_
  conv => whnf
  refine sumi64 v rfl (by omega) ?_
  conv => whnf
  first | refine callF o1 ⟨.refl _, .refl _, trivial⟩ (by trivial) rfl ?_ | ((repeat (refine ⟨by kernel_rfl, ?_⟩; (conv => whnf))); refine callF o1 ⟨.refl _, .refl _, trivial⟩ (by trivial) rfl ?_)
  conv => whnf
  refine .weak (nil_weak 13 63 3 (by decide) rfl rfl) ?_
  refine loop_mod [8, 9, 10, 11, 12, 13, 14] [9, 12, 63] [8, 9, 10, 11, 13] [9, 63]
    (fun μ fr hp_ => ∃ i : Nat, i ≤ q.nc ∧ fr = [(8, .f (.bool false)), bpk 9 2, (10, rats A q.nc), (11, rats B q.nc), bp3 12, (13, .lsl 63 1 3 0 i none), (14, .f (.int .i64 i))] ∧
      hp_ = [bxk 9 [.f (.sl 11 (fun j => (q.c j).c) q.nc none), .f (.sl 5 (fun i => (q.r i).c) q.nr none)], bx3 12 (ratL W), (63, 1, .fa 3 i (fun j => (X j).c))] ∧ μ = q.nc - i)
    (fun e fr hp_ => e = .exit 0 ∧ fr = [(8, .f (.bool false)), bpk 9 2, (10, rats A q.nc), (11, rats B q.nc), (13, .lsl 63 1 3 0 q.nc none)] ∧
      hp_ = [bxk 9 [.f (.sl 11 (fun j => (q.c j).c) q.nc none), .f (.sl 5 (fun i => (q.r i).c) q.nr none)], (63, 1, .fa 3 q.nc (fun j => (X j).c))])
    ⟨_, _, _, _, rfl, ?_, 0, Nat.zero_le _, rfl, rfl, rfl⟩ ?_ ?_
  · exact ⟨⟨rfl, rfl⟩, .refl _, ⟨rfl, rfl⟩, .refl _, ⟨rfl, rfl⟩, .fa fun j hj => absurd hj (Nat.not_lt_zero _), trivial⟩
  · rintro _ _ _ ⟨rfl, rfl, rfl⟩
    conv => whnf
    first | refine callF e1 ⟨.refl _, .refl _, trivial⟩ (by trivial) rfl ?_ | ((repeat (refine ⟨by kernel_rfl, ?_⟩; (conv => whnf))); refine callF e1 ⟨.refl _, .refl _, trivial⟩ (by trivial) rfl ?_)
    conv => whnf
    first | refine callF e2 ⟨.refl _, .refl _, trivial⟩ (by trivial) rfl ?_ | ((repeat (refine ⟨by kernel_rfl, ?_⟩; (conv => whnf))); refine callF e2 ⟨.refl _, .refl _, trivial⟩ (by trivial) rfl ?_)
    conv => whnf
    refine callF e3 ⟨.refl _, .f (.sl (fun j hj => by simp only [Nat.zero_add]; exact .fle_rr _) (.inl rfl)), trivial⟩ (by simp) rfl ?_
    conv => whnf
    first | refine callF awake11_ok trivial (by trivial) rfl ?_ | ((repeat (refine ⟨by kernel_rfl, ?_⟩; (conv => whnf))); refine callF awake11_ok trivial (by trivial) rfl ?_)
    conv => whnf
    first | refine callF mn ⟨.refl _, .refl _, trivial⟩ (by trivial) rfl ?_ | ((repeat (refine ⟨by kernel_rfl, ?_⟩; (conv => whnf))); refine callF mn ⟨.refl _, .refl _, trivial⟩ (by trivial) rfl ?_)
    conv => whnf
    first | refine callF c1 ⟨.refl _, .refl _, trivial⟩ (by trivial) rfl ?_ | ((repeat (refine ⟨by kernel_rfl, ?_⟩; (conv => whnf))); refine callF c1 ⟨.refl _, .refl _, trivial⟩ (by trivial) rfl ?_)
    conv => whnf
    refine splF (decide_eq_false hc1) ?_
    conv => whnf
    first | refine callF mx ⟨.refl _, .refl _, trivial⟩ (by trivial) rfl ?_ | ((repeat (refine ⟨by kernel_rfl, ?_⟩; (conv => whnf))); refine callF mx ⟨.refl _, .refl _, trivial⟩ (by trivial) rfl ?_)
    conv => whnf
    first | refine callF c2 ⟨.refl _, .refl _, trivial⟩ (by trivial) rfl ?_ | ((repeat (refine ⟨by kernel_rfl, ?_⟩; (conv => whnf))); refine callF c2 ⟨.refl _, .refl _, trivial⟩ (by trivial) rfl ?_)
    conv => whnf
    refine ⟨by kernel_rfl, ?_⟩
    conv => whnf
    refine splF (decide_eq_false hc2) ?_
    conv => whnf
    cases hfa : q.feas A q.nc with
    | false =>
      rw [hfa] at f1
      first | refine callF f1 ⟨.refl _, .refl _, trivial⟩ (by trivial) rfl ?_ | ((repeat (refine ⟨by kernel_rfl, ?_⟩; (conv => whnf))); refine callF f1 ⟨.refl _, .refl _, trivial⟩ (by trivial) rfl ?_)
      conv => whnf
      (repeat (refine ⟨by kernel_rfl, ?_⟩; (conv => whnf)))
      refine ⟨(by (try simp only [true_and, and_true, Nat.sub_zero, Nat.zero_add, Int.toNat_natCast]) <;> omega), ?_⟩
      exact .refl _
    | true =>
      rw [hfa] at f1
      cases hfb : q.feas B q.nc with
      | false =>
        rw [hfb] at f2
        first | refine callF f1 ⟨.refl _, .refl _, trivial⟩ (by trivial) rfl ?_ | ((repeat (refine ⟨by kernel_rfl, ?_⟩; (conv => whnf))); refine callF f1 ⟨.refl _, .refl _, trivial⟩ (by trivial) rfl ?_)
        conv => whnf
        first | refine callF f2 ⟨.refl _, .refl _, trivial⟩ (by trivial) rfl ?_ | ((repeat (refine ⟨by kernel_rfl, ?_⟩; (conv => whnf))); refine callF f2 ⟨.refl _, .refl _, trivial⟩ (by trivial) rfl ?_)
        conv => whnf
        (repeat (refine ⟨by kernel_rfl, ?_⟩; (conv => whnf)))
        refine ⟨(by (try simp only [true_and, and_true, Nat.sub_zero, Nat.zero_add, Int.toNat_natCast]) <;> omega), ?_⟩
        exact .refl _
      | true =>
        rw [hfb] at f2
        rw [hf hfa hfb] at f3
        first | refine callF f1 ⟨.refl _, .refl _, trivial⟩ (by trivial) rfl ?_ | ((repeat (refine ⟨by kernel_rfl, ?_⟩; (conv => whnf))); refine callF f1 ⟨.refl _, .refl _, trivial⟩ (by trivial) rfl ?_)
        conv => whnf
        first | refine callF f2 ⟨.refl _, .refl _, trivial⟩ (by trivial) rfl ?_ | ((repeat (refine ⟨by kernel_rfl, ?_⟩; (conv => whnf))); refine callF f2 ⟨.refl _, .refl _, trivial⟩ (by trivial) rfl ?_)
        conv => whnf
        refine callF f3 ⟨.refl _, .f (.sl (fun j hj => by simp only [Nat.zero_add]; exact .fle_rr _) (.inl rfl)), trivial⟩ (by simp) rfl ?_
        conv => whnf
        (repeat (refine ⟨by kernel_rfl, ?_⟩; (conv => whnf)))
        refine ⟨(by (try simp only [true_and, and_true, Nat.sub_zero, Nat.zero_add, Int.toNat_natCast]) <;> omega), ?_⟩
        exact .refl _
  rintro μ _ _ ⟨i, hi, rfl, rfl, rfl⟩
  by_cases hik : i < q.nc
  · have a1 := m1 i
    have a2 := m2 i
    have a3 := ad i
    have hXi := hMa i
    conv => whnf
    refine splT (by simp only [decide_eq_true_eq, decide_eq_false_iff_not, Bool.not_eq_true', Bool.not_eq_false', gt_iff_lt, ge_iff_le] <;> omega) ?_
    conv => whnf
    refine ⟨(by (try simp only [true_and, and_true, Nat.sub_zero, Nat.zero_add, Int.toNat_natCast]) <;> omega), ?_⟩
    conv => whnf
    first | refine callF a1 ⟨.refl _, .refl _, trivial⟩ (by trivial) rfl ?_ | ((repeat (refine ⟨by kernel_rfl, ?_⟩; (conv => whnf))); refine callF a1 ⟨.refl _, .refl _, trivial⟩ (by trivial) rfl ?_)
    conv => whnf
    first | refine callF i1 ⟨.refl _, trivial⟩ (by trivial) rfl ?_ | ((repeat (refine ⟨by kernel_rfl, ?_⟩; (conv => whnf))); refine callF i1 ⟨.refl _, trivial⟩ (by trivial) rfl ?_)
    conv => whnf
    first | refine callF d1 ⟨.refl _, .refl _, trivial⟩ (by trivial) rfl ?_ | ((repeat (refine ⟨by kernel_rfl, ?_⟩; (conv => whnf))); refine callF d1 ⟨.refl _, .refl _, trivial⟩ (by trivial) rfl ?_)
    conv => whnf
    refine ⟨(by (try simp only [true_and, and_true, Nat.sub_zero, Nat.zero_add, Int.toNat_natCast]) <;> omega), ?_⟩
    conv => whnf
    first | refine callF a2 ⟨.refl _, .refl _, trivial⟩ (by trivial) rfl ?_ | ((repeat (refine ⟨by kernel_rfl, ?_⟩; (conv => whnf))); refine callF a2 ⟨.refl _, .refl _, trivial⟩ (by trivial) rfl ?_)
    conv => whnf
    first | refine callF a3 ⟨.refl _, .refl _, trivial⟩ (by trivial) rfl ?_ | ((repeat (refine ⟨by kernel_rfl, ?_⟩; (conv => whnf))); refine callF a3 ⟨.refl _, .refl _, trivial⟩ (by trivial) rfl ?_)
    conv => whnf
    refine ⟨⟨(show 1 ≤ 3 / 3 - 0 by decide), by omega, by omega, (show (i + 1) * 56 ≤ 140737488355328 by omega)⟩, ?_⟩
    conv => whnf
    refine ⟨by kernel_rfl, ?_⟩
    conv => whnf
    refine fit64 (by omega) ?_
    conv => whnf
    refine ⟨_, ?_, _, _, [bxk 9 [.f (.sl 11 (fun j => (q.c j).c) q.nc none), .f (.sl 5 (fun i => (q.r i).c) q.nr none)], bx3 12 (ratL W), (63, 1, .fa 3 (i + 1) (fun j => (X j).c))], rfl, ⟨⟨rfl, rfl⟩, .refl _, ⟨rfl, rfl⟩, .refl _, ⟨rfl, rfl⟩, .fa fun j hj => more_rr (f := X) hj (by rw [hXi]; rfl), trivial⟩, i + 1, hik, rfl, rfl, rfl⟩
    omega
  · obtain rfl : i = q.nc := by omega
    conv => whnf
    refine splF (by simp only [decide_eq_true_eq, decide_eq_false_iff_not, Bool.not_eq_true', Bool.not_eq_false', gt_iff_lt, ge_iff_le] <;> omega) ?_
    conv => whnf
    exact ⟨_, _, _, rfl, .refl _, rfl, rfl, rfl⟩
end Go.Abs

/- What comes in: lists of limbs, integers. -/
set_option autoImplicit false
set_option maxHeartbeats 4000000
set_option linter.unusedVariables false
set_option linter.unusedSimpArgs false
namespace Go.Abs
open Go Go.Proofs

theorem dec_limbs {c : List FV} {n : Nat} (h : Fits tab 36 c n) : ∃ (g : Nat → Nat) (m : Nat), Dig g m ∧ m + 1 ≤ n ∧ All2 FVle c [.sl 1 (fun j => [.int .u32 (g j : Nat)]) m none] := by
  obtain ⟨te, at_, len, bs, he, rfl, hel, hn⟩ := h.inv rfl
  have hte : te = ⟨.int .u32, 1, 4, [.int .u32 0]⟩ := by cases he; rfl
  have hx : ∀ i, i < len → ∃ x : Nat, x < 4294967296 ∧ at_ i = [.int .u32 (x : Int)] := by
    intro i hi
    have := (hel i hi).inv he
    subst hte
    obtain ⟨z, h1, h2, h3⟩ := this
    refine ⟨z.toNat, ?_, ?_⟩
    · have : z ≤ 4294967295 := h3
      have : 0 ≤ z := h2
      omega
    · have : 0 ≤ z := h2
      rw [h1, Int.toNat_of_nonneg this]
  obtain ⟨g, hg⟩ := pickF hx
  refine ⟨g, len, fun i hi => (hg i hi).1, ?_, ?_, trivial⟩
  · have := len_le_sumTo (bs := bs) (n := len) fun i hi => (hel i hi).pos
    omega
  · subst hte
    refine .sl (fun i hi => ?_) (.inl rfl)
    rw [(hg i hi).2]
    exact ⟨.refl _, trivial⟩

theorem dec_Int {c : List FV} {n : Nat} (h : Fits tab 38 c n) : ∃ (neg : Bool) (g : Nat → Nat) (m : Nat), Dig g m ∧ m + 1 ≤ n ∧ All2 FVle c [.bool neg, .sl 1 (fun j => [.int .u32 (g j : Nat)]) m none] := by
  obtain ⟨m0, hf, hn⟩ := h.inv rfl
  obtain ⟨a, b, c1, c2, h1, h2, rfl, rfl⟩ := hf.inv
  obtain ⟨a2, b2, c3, c4, h3, h4, rfl, rfl⟩ := h2.inv
  obtain ⟨rfl, rfl⟩ := h4.inv0
  obtain ⟨neg, rfl⟩ := h1.inv rfl
  obtain ⟨g, m, hg, hm, hle⟩ := dec_limbs h3
  refine ⟨neg, g, m, hg, by omega, ?_⟩
  rw [List.append_nil]
  exact ⟨.refl _, hle⟩

theorem all2_fle_fL : ∀ {c c' : List FV}, All2 FVle c c' → All2 AVle (fL c) (fL c')
  | [], [], _ => by simp [fL, All2]
  | x :: r, y :: r', ⟨a, b⟩ => by simp only [fL]; exact ⟨.f a, all2_fle_fL b⟩
  | [], _ :: _, h => h.elim
  | _ :: _, [], h => h.elim
theorem AVle.of_fL {c c' : List FV} (h : All2 FVle c c') : AVle (.agg (fL c)) (.agg (fL c')) := .agg (all2_fle_fL h)
theorem par_Int {c : List FV} {n : Nat} (h : Fits tab 38 c n) : ∃ (x : AV) (z : Int), IsI x z n ∧ AVle (.agg (fL c)) x := by
  obtain ⟨neg, g, m, hg, hm, hle⟩ := dec_Int h
  exact ⟨_, _, .mk neg g m n hg (by omega), .of_fL hle⟩
theorem par_limbs {c : FV} {n : Nat} (h : Fits tab 36 [c] n) : ∃ (g : Nat → Nat) (m : Nat), Dig g m ∧ m ≤ n ∧ AVle (.f c) (raw g m) := by
  obtain ⟨g, m, hg, hm, hle⟩ := dec_limbs h
  exact ⟨g, m, hg, by omega, .f hle.1⟩
theorem par_int {c : FV} {n : Nat} (h : Fits tab 3 [c] n) : ∃ z : Int, (-9223372036854775808 ≤ z ∧ z ≤ 9223372036854775807) ∧ AVle (.f c) (.f (.int .i64 z)) := by
  obtain ⟨z, hc, h1, h2⟩ := h.inv rfl
  cases hc
  exact ⟨z, ⟨h1, h2⟩, .refl _⟩
end Go.Abs

/- What comes in: rational numbers. -/
set_option autoImplicit false
set_option maxHeartbeats 4000000
set_option linter.unusedVariables false
set_option linter.unusedSimpArgs false
namespace Go.Abs
open Go Go.Proofs

theorem all2_app {α β : Type} {R : α → β → Prop} : ∀ {a : List α} {b : List β} {c : List α} {d : List β}, All2 R a b → All2 R c d → All2 R (a ++ c) (b ++ d)
  | [], [], _, _, _, h => h
  | _ :: _, _ :: _, _, _, ⟨h1, h2⟩, h => ⟨h1, all2_app h2 h⟩
  | [], _ :: _, _, _, h, _ => h.elim
  | _ :: _, [], _, _, h, _ => h.elim
theorem dec_Rat {c : List FV} {n : Nat} (h : Fits tab 40 c n) : ∃ (neg : Bool) (g : Nat → Nat) (m : Nat) (g' : Nat → Nat) (m' : Nat), Dig g m ∧ Dig g' m' ∧ m + m' + 3 ≤ n ∧ All2 FVle c [.bool neg, .sl 1 (fun j => [.int .u32 (g j : Nat)]) m none, .sl 1 (fun j => [.int .u32 (g' j : Nat)]) m' none] := by
  obtain ⟨m0, hf, hn⟩ := h.inv rfl
  obtain ⟨a, b, c1, c2, h1, h2, rfl, rfl⟩ := hf.inv
  obtain ⟨a2, b2, c3, c4, h3, h4, rfl, rfl⟩ := h2.inv
  obtain ⟨rfl, rfl⟩ := h4.inv0
  obtain ⟨neg, g, m, hg, hm, hle⟩ := dec_Int h1
  obtain ⟨g', m', hg', hm', hle'⟩ := dec_limbs h3
  refine ⟨neg, g, m, g', m', hg, hg', by omega, ?_⟩
  rw [List.append_nil]
  exact all2_app hle hle'
theorem par_Rat {c : List FV} {n : Nat} (h : Fits tab 40 c n) : ∃ (x : AV) (q : Rat), IsR x q n ∧ AVle (.agg (fL c)) x := by
  obtain ⟨neg, g, m, g', m', hg, hg', hm, hle⟩ := dec_Rat h
  exact ⟨_, _, .mk neg g m g' m' n hg hg' (by omega) (by omega) (by omega), .of_fL hle⟩
theorem par_uint32 {c : FV} {n : Nat} (h : Fits tab 110 [c] n) : ∃ z : Int, (0 ≤ z ∧ z ≤ 4294967295) ∧ AVle (.f c) (.f (.int .u32 z)) := by
  obtain ⟨z, hc, h1, h2⟩ := h.inv rfl
  cases hc
  exact ⟨z, ⟨h1, h2⟩, .refl _⟩
theorem par_uint8 {c : FV} {n : Nat} (h : Fits tab 5 [c] n) : ∃ z : Int, (0 ≤ z ∧ z ≤ 255) ∧ AVle (.f c) (.f (.int .u8 z)) := by
  obtain ⟨z, hc, h1, h2⟩ := h.inv rfl
  cases hc
  exact ⟨z, ⟨h1, h2⟩, .refl _⟩
theorem par_bool {c : FV} {n : Nat} (h : Fits tab 4 [c] n) : ∃ b : Bool, AVle (.f c) (.f (.bool b)) := by
  obtain ⟨b, hc⟩ := h.inv rfl
  cases hc
  exact ⟨b, .refl _⟩
end Go.Abs

/- What comes in: lists of numbers, small numbers. -/
set_option autoImplicit false
set_option maxHeartbeats 4000000
set_option linter.unusedVariables false
set_option linter.unusedSimpArgs false
namespace Go.Abs
open Go Go.Proofs

theorem par_ints {c : FV} {n : Nat} (h : Fits tab 27 [c] n) : ∃ (g : Nat → Int) (m : Nat), (∀ i, i < m → -9223372036854775808 ≤ g i ∧ g i ≤ 9223372036854775807) ∧ m ≤ n ∧ AVle (.f c) (.f (.sl 1 (fun j => [.int .i64 (g j)]) m none)) := by
  obtain ⟨te, at_, len, bs, he, hc, hel, hn⟩ := h.inv rfl
  cases hc
  have hte : te = ⟨.int .i64, 1, 8, [.int .i64 0]⟩ := by cases he; rfl
  have hx : ∀ i, i < len → ∃ x : Int, (-9223372036854775808 ≤ x ∧ x ≤ 9223372036854775807) ∧ at_ i = [.int .i64 x] := by
    intro i hi
    have := (hel i hi).inv he
    subst hte
    obtain ⟨z, h1, h2, h3⟩ := this
    exact ⟨z, ⟨h2, h3⟩, h1⟩
  obtain ⟨g, hg⟩ := pickF hx
  refine ⟨g, len, fun i hi => (hg i hi).1, ?_, .f ?_⟩
  · have := len_le_sumTo (bs := bs) (n := len) fun i hi => (hel i hi).pos
    omega
  · subst hte
    refine .sl (fun i hi => ?_) (.inl rfl)
    rw [(hg i hi).2]
    exact ⟨.refl _, trivial⟩
end Go.Abs

/- What comes in: lists of rational numbers, linear programs. -/
set_option autoImplicit false
set_option maxHeartbeats 4000000
set_option linter.unusedVariables false
set_option linter.unusedSimpArgs false
namespace Go.Abs
open Go Go.Proofs

instance : Inhabited RR := ⟨RR.nil⟩
instance : Inhabited En := ⟨⟨0, RR.nil⟩⟩
instance : Inhabited Ro := ⟨⟨0, RR.nil, fun _ => default, 0⟩⟩
instance : Inhabited Co := ⟨⟨RR.nil, false, RR.nil, false, RR.nil⟩⟩
theorem nsum_sumTo {f bs : Nat → Nat} : ∀ {n : Nat}, (∀ i, i < n → f i ≤ bs i) → nsum f n ≤ sumTo bs n
  | 0, _ => Nat.le_refl _
  | n + 1, h => by
    have := nsum_sumTo (n := n) (fun i hi => h i (by omega))
    have := h n (by omega)
    simp only [nsum, sumTo]; omega
theorem dec_RR {c : List FV} {n : Nat} (h : Fits tab 40 c n) : ∃ r : RR, (r.Ok ∧ r.sz + 1 ≤ n) ∧ All2 FVle c r.c := by
  obtain ⟨neg, g, m, g', m', hg, hg', hm, hle⟩ := dec_Rat h
  exact ⟨⟨neg, g, m, g', m'⟩, ⟨⟨hg, hg'⟩, by unfold RR.sz; simp only; omega⟩, hle⟩
theorem par_Rats {c : FV} {n : Nat} (h : Fits tab 26 [c] n) (hn : n ≤ 1048576) : ∃ (x : Nat → RR) (m : Nat), XH x m ∧ m + nsum (fun j => (x j).sz) m + 1 ≤ n ∧ AVle (.f c) (rats x m) := by
  obtain ⟨te, at_, len, bs, he, hc, hel, hs⟩ := h.inv rfl
  cases hc
  have hte : te.size = 3 := by cases he; rfl
  have hx : ∀ i, i < len → ∃ r : RR, (r.Ok ∧ r.sz + 1 ≤ bs i) ∧ All2 FVle (at_ i) r.c := fun i hi => dec_RR (hel i hi)
  obtain ⟨x, hx⟩ := pickF hx
  have h1 : nsum (fun j => (x j).sz + 1) len ≤ sumTo bs len := nsum_sumTo fun i hi => (hx i hi).1.2
  have e : nsum (fun j => (x j).sz + 1) len = nsum (fun j => (x j).sz) len + nsum (fun _ => 1) len := by rw [nsum_add]
  have e2 := nsum_const 1 len
  refine ⟨x, len, ⟨fun j hj => (hx j hj).1.1, fun j hj => ?_, by omega, by omega⟩, by omega, .f ?_⟩
  · have h3 : (x j).sz ≤ nsum (fun j => (x j).sz) len := nsum_get (f := fun j => (x j).sz) hj
    omega
  · rw [hte]
    exact .sl (fun i hi => (hx i hi).2) (.inl rfl)
theorem dec_En {c : List FV} {n : Nat} (h : Fits tab 97 c n) : ∃ e : En, (e.Ok ∧ e.v.sz + 1 ≤ n) ∧ All2 FVle c e.c := by
  obtain ⟨m0, hf, hn⟩ := h.inv rfl
  obtain ⟨a, b, c1, c2, h1, h2, rfl, rfl⟩ := hf.inv
  obtain ⟨a2, b2, c3, c4, h3, h4, rfl, rfl⟩ := h2.inv
  obtain ⟨rfl, rfl⟩ := h4.inv0
  obtain ⟨z, rfl, p1, p2⟩ := h1.inv rfl
  obtain ⟨r, ⟨hr, hs⟩, hle⟩ := dec_RR h3
  refine ⟨⟨z, r⟩, ⟨⟨⟨p1, p2⟩, hr⟩, by simp only; omega⟩, ?_⟩
  rw [List.append_nil]
  exact ⟨.refl _, hle⟩
theorem dec_Ro {c : List FV} {n : Nat} (h : Fits tab 56 c n) : ∃ r : Ro, (r.Ok ∧ r.sz ≤ n ∧ r.k ≤ n) ∧ All2 FVle c r.c := by
  obtain ⟨m0, hf, hn⟩ := h.inv rfl
  obtain ⟨a, b, c1, c2, h1, h2, rfl, rfl⟩ := hf.inv
  obtain ⟨a2, b2, c3, c4, h3, h4, rfl, rfl⟩ := h2.inv
  obtain ⟨a3, b3, c5, c6, h5, h6, rfl, rfl⟩ := h4.inv
  obtain ⟨rfl, rfl⟩ := h6.inv0
  obtain ⟨z, rfl, p1, p2⟩ := h1.inv rfl
  obtain ⟨r, ⟨hr, hs⟩, hle⟩ := dec_RR h3
  obtain ⟨te, at_, len, bs, he, rfl, hel, hsum⟩ := h5.inv rfl
  have hte : te.size = 4 := by cases he; rfl
  have hx : ∀ i, i < len → ∃ e : En, (e.Ok ∧ e.v.sz + 1 ≤ bs i) ∧ All2 FVle (at_ i) e.c := fun i hi => dec_En (hel i hi)
  obtain ⟨e, hx⟩ := pickF hx
  have q1 : nsum (fun j => (e j).v.sz + 1) len ≤ sumTo bs len := nsum_sumTo fun i hi => (hx i hi).1.2
  have q2 := len_le_sumTo (bs := bs) (n := len) fun i hi => (hel i hi).pos
  refine ⟨⟨z, r, e, len⟩, ⟨⟨⟨p1, p2⟩, hr, fun j hj => (hx j hj).1.1⟩, ?_, by simp only; omega⟩, ?_⟩
  · unfold Ro.sz Ro.esz; simp only; omega
  · rw [List.append_nil, hte]
    exact ⟨.refl _, all2_app hle ⟨.sl (fun i hi => (hx i hi).2) (.inl rfl), trivial⟩⟩
theorem dec_Co {c : List FV} {n : Nat} (h : Fits tab 61 c n) : ∃ r : Co, (r.Ok ∧ r.sz ≤ n) ∧ All2 FVle c r.c := by
  obtain ⟨m0, hf, hn⟩ := h.inv rfl
  obtain ⟨a, b, c1, c2, h1, h2, rfl, rfl⟩ := hf.inv
  obtain ⟨a2, b2, c3, c4, h3, h4, rfl, rfl⟩ := h2.inv
  obtain ⟨a3, b3, c5, c6, h5, h6, rfl, rfl⟩ := h4.inv
  obtain ⟨a4, b4, c7, c8, h7, h8, rfl, rfl⟩ := h6.inv
  obtain ⟨a5, b5, c9, c10, h9, h10, rfl, rfl⟩ := h8.inv
  obtain ⟨rfl, rfl⟩ := h10.inv0
  obtain ⟨r1, ⟨hr1, hs1⟩, hle1⟩ := dec_RR h1
  obtain ⟨r2, ⟨hr2, hs2⟩, hle2⟩ := dec_RR h5
  obtain ⟨r3, ⟨hr3, hs3⟩, hle3⟩ := dec_RR h9
  obtain ⟨f1, rfl⟩ := h3.inv rfl
  obtain ⟨f2, rfl⟩ := h7.inv rfl
  refine ⟨⟨r1, f1, r2, f2, r3⟩, ⟨⟨hr1, hr2, hr3⟩, by unfold Co.sz; simp only; omega⟩, ?_⟩
  rw [List.append_nil]
  exact all2_app hle1 ⟨.refl _, all2_app hle2 ⟨.refl _, hle3⟩⟩
theorem par_Prog {c : List FV} {n : Nat} (h : Fits tab 25 c n) (hn : n ≤ 1048576) : ∃ p : Pr, p.H ∧ AVle (.agg (fL c)) p.a := by
  obtain ⟨m0, hf, hm⟩ := h.inv rfl
  obtain ⟨a, b, c1, c2, h1, h2, rfl, rfl⟩ := hf.inv
  obtain ⟨a2, b2, c3, c4, h3, h4, rfl, rfl⟩ := h2.inv
  obtain ⟨rfl, rfl⟩ := h4.inv0
  obtain ⟨te, at_, len, bs, he, rfl, hel, hsum⟩ := h1.inv rfl
  obtain ⟨te2, at2, len2, bs2, he2, rfl, hel2, hsum2⟩ := h3.inv rfl
  have hte : te.size = 11 := by cases he; rfl
  have hte2 : te2.size = 5 := by cases he2; rfl
  have hx : ∀ i, i < len → ∃ r : Co, (r.Ok ∧ r.sz ≤ bs i) ∧ All2 FVle (at_ i) r.c := fun i hi => dec_Co (hel i hi)
  have hy : ∀ i, i < len2 → ∃ r : Ro, (r.Ok ∧ r.sz ≤ bs2 i ∧ r.k ≤ bs2 i) ∧ All2 FVle (at2 i) r.c := fun i hi => dec_Ro (hel2 i hi)
  obtain ⟨x, hx⟩ := pickF hx
  obtain ⟨y, hy⟩ := pickF hy
  have q1 : nsum (fun j => (x j).sz) len ≤ sumTo bs len := nsum_sumTo fun i hi => (hx i hi).1.2
  have q2 : nsum (fun j => (y j).sz) len2 ≤ sumTo bs2 len2 := nsum_sumTo fun i hi => (hy i hi).1.2.1
  have q3 := len_le_sumTo (bs := bs) (n := len) fun i hi => (hel i hi).pos
  have q4 := len_le_sumTo (bs := bs2) (n := len2) fun i hi => (hel2 i hi).pos
  have q5 : ∀ i, i < len2 → (y i).k ≤ 1048576 := fun i hi => by
    have := (hy i hi).1.2.2
    have := sumTo_le (bs := bs2) hi
    omega
  refine ⟨⟨x, len, y, len2⟩, ⟨⟨fun j hj => (hx j hj).1.1, fun i hi => (hy i hi).1.1⟩, ?_, fun i hi => by have := q5 i hi; simp only; omega, by simp only; omega, by simp only; omega⟩, ?_⟩
  · unfold Pr.sz; simp only; omega
  · rw [hte, hte2]
    exact .agg ⟨.f (.sl (fun i hi => (hx i hi).2) (.inl rfl)), .f (.sl (fun i hi => (hy i hi).2) (.inl rfl)), trivial⟩
end Go.Abs
