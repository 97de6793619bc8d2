/- Contracts of the functions that the law calls, and the logic in which they are proved: part 5. -/
import Derived.Test.YtchhodcoknhgnaaGreatPq4
/- Laws of layer 11: weak duality, convexity. -/
set_option autoImplicit false
set_option maxHeartbeats 4000000
set_option maxRecDepth 10000
set_option linter.unusedVariables false
set_option linter.unusedSimpArgs false
namespace Go.Abs
open Go Go.Proofs

theorem lawWeak_ok {p : Pr} (hp : p.H) {x y : Nat → RR} {nx ny : Nat} (hx : XH x nx) (hy : XH y ny) : ACall Tryz.prog 18 [p.a, rats x nx, rats y ny] (.f (.bool true)) := by
  have b1 := lpBound_ok hp hy
  have f1 := lpFeasible_ok hp hx
  have o1 := lpObjective_ok hp hx
  unfold bndRes at b1
  cases hb : p.bndOk y ny with
  | false =>
    rw [hb, if_neg (by simp)] at b1
    refine acall_rule env [0, 1, 2, 3, 6, 7, 8, 9, 10, 24] Tryz.func18 rfl rfl rfl rfl ?_
    conv => whnf
    first | refine callF b1 ⟨.refl _, .refl _, trivial⟩ (by trivial) rfl ?_ | ((repeat (refine ⟨by kernel_rfl, ?_⟩; (conv => whnf))); refine callF b1 ⟨.refl _, .refl _, trivial⟩ (by trivial) rfl ?_)
    conv => whnf
    (repeat (refine ⟨by kernel_rfl, ?_⟩; (conv => whnf)))
    refine ⟨(by (try simp only [true_and, and_true, Nat.sub_zero, Nat.zero_add, Int.toNat_natCast]) <;> omega), ?_⟩
    exact .refl _
  | true =>
    rw [hb, if_pos rfl] at b1
    cases hf : p.feas x nx with
    | false =>
      rw [hf] at f1
      refine acall_rule env [0, 1, 2, 3, 6, 7, 8, 9, 10, 24] Tryz.func18 rfl rfl rfl rfl ?_
      conv => whnf
      first | refine callF b1 ⟨.refl _, .refl _, trivial⟩ (by trivial) rfl ?_ | ((repeat (refine ⟨by kernel_rfl, ?_⟩; (conv => whnf))); refine callF b1 ⟨.refl _, .refl _, trivial⟩ (by trivial) rfl ?_)
      conv => whnf
      first | refine callF f1 ⟨.refl _, .refl _, trivial⟩ (by trivial) rfl ?_ | ((repeat (refine ⟨by kernel_rfl, ?_⟩; (conv => whnf))); refine callF f1 ⟨.refl _, .refl _, trivial⟩ (by trivial) rfl ?_)
      conv => whnf
      (repeat (refine ⟨by kernel_rfl, ?_⟩; (conv => whnf)))
      refine ⟨(by (try simp only [true_and, and_true, Nat.sub_zero, Nat.zero_add, Int.toNat_natCast]) <;> omega), ?_⟩
      exact .refl _
    | true =>
      rw [hf] at f1
      have hw := weak_duality hf hb
      obtain ⟨he, hn, _⟩ := feas_facts hf
      rw [objRes, if_neg (fun h => h (errS_zero.2 ⟨he, hn⟩))] at o1
      have hbz : rsz (p.bnd y) ≤ 618760568836 := bnd_sz hp hy hb
      have hoz : rsz (p.obj x) ≤ 137455730690 := obj_sz hp hx he hn
      have c1 := sCompare_ok (isR_rat _ hoz) (isR_rat _ hbz) (by omega)
      have hc : rcmp (p.obj x) (p.bnd y) ≥ 0 := by have := rcmp_le.2 hw; rw [rcmp_neg] at this; omega
      generalize rcmp (p.obj x) (p.bnd y) = C at *
      generalize p.obj x = q at *
      generalize p.bnd y = r at *
      refine acall_rule env [0, 1, 2, 3, 6, 7, 8, 9, 10, 24] Tryz.func18 rfl rfl rfl rfl ?_
      conv => whnf
      first | refine callF b1 ⟨.refl _, .refl _, trivial⟩ (by trivial) rfl ?_ | ((repeat (refine ⟨by kernel_rfl, ?_⟩; (conv => whnf))); refine callF b1 ⟨.refl _, .refl _, trivial⟩ (by trivial) rfl ?_)
      conv => whnf
      first | refine callF f1 ⟨.refl _, .refl _, trivial⟩ (by trivial) rfl ?_ | ((repeat (refine ⟨by kernel_rfl, ?_⟩; (conv => whnf))); refine callF f1 ⟨.refl _, .refl _, trivial⟩ (by trivial) rfl ?_)
      conv => whnf
      first | refine callF o1 ⟨.refl _, .refl _, trivial⟩ (by trivial) rfl ?_ | ((repeat (refine ⟨by kernel_rfl, ?_⟩; (conv => whnf))); refine callF o1 ⟨.refl _, .refl _, trivial⟩ (by trivial) rfl ?_)
      conv => whnf
      first | refine callF c1 ⟨.refl _, .refl _, trivial⟩ (by trivial) rfl ?_ | ((repeat (refine ⟨by kernel_rfl, ?_⟩; (conv => whnf))); refine callF c1 ⟨.refl _, .refl _, trivial⟩ (by trivial) rfl ?_)
      conv => whnf
      refine ⟨(by (try simp only [true_and, and_true, Nat.sub_zero, Nat.zero_add, Int.toNat_natCast]) <;> omega), ?_⟩
      exact .bool_of (decide_eq_true hc)
/-- a multiplier with the sign that its row requires -/
def sgnR (p : Pr) (y : Nat → RR) (j : Nat) : RR := if signB (p.r j).s (y j).v then y j else RR.of (-(y j).v)
theorem sgnR_xh {p : Pr} {y : Nat → RR} {n : Nat} (h1 : ∀ j, j < n → (y j).Ok) (h2 : ∀ j, j < n → (y j).sz ≤ 4096) (h3 : n ≤ 64) : XH (sgnR p y) n := by
  refine xh_of (fun j hj => ?_) (fun j hj => ?_) h3
  · unfold sgnR; split
    · exact h1 j hj
    · exact RR.of_ok _
  · unfold sgnR; split
    · exact h2 j hj
    · rw [RR.of_sz, rsz_neg]; exact Nat.le_trans (h1 j hj).size (h2 j hj)
theorem lawSigned_ok {p : Pr} (hp : p.H) {y : Nat → RR} (hy : ∀ j, j < p.nr → (y j).Ok) (hs : ∀ j, j < p.nr → (y j).sz ≤ 4096) : ACall Tryz.prog 16 [p.a, rats y p.nr] (rats (sgnR p y) p.nr) := by
  have hnr := hp.r
  refine acall_rule env [0, 1, 2, 4, 5, 6, 7, 8, 12, 40] Tryz.func16 rfl rfl rfl rfl ?_
  conv => whnf
  refine .weak (nil_weak 5 46 3 (by decide) rfl rfl) ?_
  refine loop_mod [1, 2, 5, 6] [2, 46] [5] [46]
    (fun μ fr hp_ => ∃ i : Nat, i ≤ p.nr ∧ fr = [(1, rats y p.nr), bpk 2 2, (5, .lsl 46 1 3 0 i none), (6, .f (.int .i64 i))] ∧
      hp_ = [bxk 2 [.f (.sl 11 (fun j => (p.c j).c) p.nc none), .f (.sl 5 (fun i => (p.r i).c) p.nr none)], (46, 1, .fa 3 i (fun q => (sgnR p y q).c))] ∧ μ = p.nr - i)
    (fun e fr hp_ => e = .exit 0 ∧ fr = [(5, .lsl 46 1 3 0 p.nr none)] ∧ hp_ = [(46, 1, .fa 3 p.nr (fun q => (sgnR p y q).c))])
    ⟨_, _, _, _, rfl, ?_, 0, Nat.zero_le _, rfl, rfl, rfl⟩ ?_ ?_
  · exact ⟨⟨rfl, rfl⟩, .refl _, ⟨rfl, rfl⟩, .fa fun j hj => absurd hj (Nat.not_lt_zero _), trivial⟩
  · rintro _ _ _ ⟨rfl, rfl, rfl⟩
    conv => whnf
    refine ⟨(by (try simp only [true_and, and_true, Nat.sub_zero, Nat.zero_add, Int.toNat_natCast]) <;> omega), ?_⟩
    exact .f (.sl (fun j hj => by simp only [Nat.zero_add]; exact .fle_rr _) (.inl rfl))
  rintro μ _ _ ⟨i, hi, rfl, rfl, rfl⟩
  by_cases hik : i < p.nr
  · have zy := hs i hik
    have s1 := sSign_ok (hy i hik).is (by omega)
    have n1 := sNeg_ok (hy i hik).is (by omega)
    have hsb : signB (p.r i).s (y i).v = !((decide ((p.r i).s = -1) && decide (0 < (y i).v)) || (decide ((p.r i).s = 1) && decide ((y i).v < 0))) := rfl
    have hR : sgnR p y i = if signB (p.r i).s (y i).v then y i else RR.of (-(y i).v) := rfl
    have q1 : decide (0 < (y i).v) = decide (rcmp (y i).v 0 > 0) := decide_eq_decide.2 rcmp_pos.symm
    have q2 : decide ((y i).v < 0) = decide (rcmp (y i).v 0 < 0) := decide_eq_decide.2 (by
      constructor
      · intro h; rw [rcmp_lt h]; decide
      · intro h; exact Rat.not_le.1 fun h' => by have := rcmp_le.2 h'; rw [rcmp_neg] at this; omega)
    rw [q1, q2] at hsb
    generalize rcmp (y i).v 0 = C at *
    clear q1 q2
    by_cases a1 : (p.r i).s = -1
    · by_cases a2 : C > 0
      · have hv : signB (p.r i).s (y i).v = false := by rw [hsb, decide_eq_true a1, decide_eq_true a2]; rfl
        have hsg : sgnR p y i = RR.of (-(y i).v) := by rw [hR, hv]; rfl
        conv => whnf
        refine splT (by simp only [decide_eq_true_eq, decide_eq_false_iff_not, Bool.not_eq_true', Bool.not_eq_false', gt_iff_lt, ge_iff_le] <;> omega) ?_
        conv => whnf
        refine ⟨(by (try simp only [true_and, and_true, Nat.sub_zero, Nat.zero_add, Int.toNat_natCast]) <;> omega), ?_⟩
        conv => whnf
        refine ⟨(by (try simp only [true_and, and_true, Nat.sub_zero, Nat.zero_add, Int.toNat_natCast]) <;> omega), ?_⟩
        conv => whnf
        refine splT (decide_eq_true a1) ?_
        conv => whnf
        first | refine callF s1 ⟨.refl _, trivial⟩ (by trivial) rfl ?_ | ((repeat (refine ⟨by kernel_rfl, ?_⟩; (conv => whnf))); refine callF s1 ⟨.refl _, trivial⟩ (by trivial) rfl ?_)
        conv => whnf
        refine splT (decide_eq_true a2) ?_
        conv => whnf
        first | refine callF n1 ⟨.refl _, trivial⟩ (by trivial) rfl ?_ | ((repeat (refine ⟨by kernel_rfl, ?_⟩; (conv => whnf))); refine callF n1 ⟨.refl _, trivial⟩ (by trivial) rfl ?_)
        conv => whnf
        refine ⟨⟨(show 1 ≤ 3 / 3 - 0 by decide), by omega, by omega, (show (i + 1) * 56 ≤ 140737488355328 by omega)⟩, ?_⟩
        conv => whnf
        refine fit64 (by omega) ?_
        conv => whnf
        refine ⟨_, ?_, _, _, [bxk 2 [.f (.sl 11 (fun j => (p.c j).c) p.nc none), .f (.sl 5 (fun i => (p.r i).c) p.nr none)], (46, 1, .fa 3 (i + 1) (fun q => (sgnR p y q).c))], rfl, ⟨⟨rfl, rfl⟩, .refl _, ⟨rfl, rfl⟩, .fa fun q hq => more_rr (f := sgnR p y) hq (by rw [hsg]; rfl), trivial⟩, i + 1, hik, rfl, rfl, rfl⟩
        omega
      · have hv : signB (p.r i).s (y i).v = true := by rw [hsb, decide_eq_false a2, decide_eq_false (show ¬ (p.r i).s = 1 by omega)]; simp
        have hsg : sgnR p y i = y i := by rw [hR, hv]; rfl
        conv => whnf
        refine splT (by simp only [decide_eq_true_eq, decide_eq_false_iff_not, Bool.not_eq_true', Bool.not_eq_false', gt_iff_lt, ge_iff_le] <;> omega) ?_
        conv => whnf
        refine ⟨(by (try simp only [true_and, and_true, Nat.sub_zero, Nat.zero_add, Int.toNat_natCast]) <;> omega), ?_⟩
        conv => whnf
        refine ⟨(by (try simp only [true_and, and_true, Nat.sub_zero, Nat.zero_add, Int.toNat_natCast]) <;> omega), ?_⟩
        conv => whnf
        refine splT (decide_eq_true a1) ?_
        conv => whnf
        first | refine callF s1 ⟨.refl _, trivial⟩ (by trivial) rfl ?_ | ((repeat (refine ⟨by kernel_rfl, ?_⟩; (conv => whnf))); refine callF s1 ⟨.refl _, trivial⟩ (by trivial) rfl ?_)
        conv => whnf
        refine splF (decide_eq_false a2) ?_
        conv => whnf
        refine splF (decide_eq_false (show ¬ (p.r i).s = 1 by omega)) ?_
        conv => whnf
        refine ⟨⟨(show 1 ≤ 3 / 3 - 0 by decide), by omega, by omega, (show (i + 1) * 56 ≤ 140737488355328 by omega)⟩, ?_⟩
        conv => whnf
        refine fit64 (by omega) ?_
        conv => whnf
        refine ⟨_, ?_, _, _, [bxk 2 [.f (.sl 11 (fun j => (p.c j).c) p.nc none), .f (.sl 5 (fun i => (p.r i).c) p.nr none)], (46, 1, .fa 3 (i + 1) (fun q => (sgnR p y q).c))], rfl, ⟨⟨rfl, rfl⟩, .refl _, ⟨rfl, rfl⟩, .fa fun q hq => more_rr (f := sgnR p y) hq (by rw [hsg]; rfl), trivial⟩, i + 1, hik, rfl, rfl, rfl⟩
        omega
    · by_cases a3 : (p.r i).s = 1
      · by_cases a4 : C < 0
        · have hv : signB (p.r i).s (y i).v = false := by rw [hsb, decide_eq_true a3, decide_eq_true a4]; simp
          have hsg : sgnR p y i = RR.of (-(y i).v) := by rw [hR, hv]; rfl
          conv => whnf
          refine splT (by simp only [decide_eq_true_eq, decide_eq_false_iff_not, Bool.not_eq_true', Bool.not_eq_false', gt_iff_lt, ge_iff_le] <;> omega) ?_
          conv => whnf
          refine ⟨(by (try simp only [true_and, and_true, Nat.sub_zero, Nat.zero_add, Int.toNat_natCast]) <;> omega), ?_⟩
          conv => whnf
          refine ⟨(by (try simp only [true_and, and_true, Nat.sub_zero, Nat.zero_add, Int.toNat_natCast]) <;> omega), ?_⟩
          conv => whnf
          refine splF (decide_eq_false a1) ?_
          conv => whnf
          refine splT (decide_eq_true a3) ?_
          conv => whnf
          first | refine callF s1 ⟨.refl _, trivial⟩ (by trivial) rfl ?_ | ((repeat (refine ⟨by kernel_rfl, ?_⟩; (conv => whnf))); refine callF s1 ⟨.refl _, trivial⟩ (by trivial) rfl ?_)
          conv => whnf
          refine splT (decide_eq_true a4) ?_
          conv => whnf
          first | refine callF n1 ⟨.refl _, trivial⟩ (by trivial) rfl ?_ | ((repeat (refine ⟨by kernel_rfl, ?_⟩; (conv => whnf))); refine callF n1 ⟨.refl _, trivial⟩ (by trivial) rfl ?_)
          conv => whnf
          refine ⟨⟨(show 1 ≤ 3 / 3 - 0 by decide), by omega, by omega, (show (i + 1) * 56 ≤ 140737488355328 by omega)⟩, ?_⟩
          conv => whnf
          refine fit64 (by omega) ?_
          conv => whnf
          refine ⟨_, ?_, _, _, [bxk 2 [.f (.sl 11 (fun j => (p.c j).c) p.nc none), .f (.sl 5 (fun i => (p.r i).c) p.nr none)], (46, 1, .fa 3 (i + 1) (fun q => (sgnR p y q).c))], rfl, ⟨⟨rfl, rfl⟩, .refl _, ⟨rfl, rfl⟩, .fa fun q hq => more_rr (f := sgnR p y) hq (by rw [hsg]; rfl), trivial⟩, i + 1, hik, rfl, rfl, rfl⟩
          omega
        · have hv : signB (p.r i).s (y i).v = true := by rw [hsb, decide_eq_false a1, decide_eq_false a4]; simp
          have hsg : sgnR p y i = y i := by rw [hR, hv]; rfl
          conv => whnf
          refine splT (by simp only [decide_eq_true_eq, decide_eq_false_iff_not, Bool.not_eq_true', Bool.not_eq_false', gt_iff_lt, ge_iff_le] <;> omega) ?_
          conv => whnf
          refine ⟨(by (try simp only [true_and, and_true, Nat.sub_zero, Nat.zero_add, Int.toNat_natCast]) <;> omega), ?_⟩
          conv => whnf
          refine ⟨(by (try simp only [true_and, and_true, Nat.sub_zero, Nat.zero_add, Int.toNat_natCast]) <;> omega), ?_⟩
          conv => whnf
          refine splF (decide_eq_false a1) ?_
          conv => whnf
          refine splT (decide_eq_true a3) ?_
          conv => whnf
          first | refine callF s1 ⟨.refl _, trivial⟩ (by trivial) rfl ?_ | ((repeat (refine ⟨by kernel_rfl, ?_⟩; (conv => whnf))); refine callF s1 ⟨.refl _, trivial⟩ (by trivial) rfl ?_)
          conv => whnf
          refine splF (decide_eq_false a4) ?_
          conv => whnf
          refine ⟨⟨(show 1 ≤ 3 / 3 - 0 by decide), by omega, by omega, (show (i + 1) * 56 ≤ 140737488355328 by omega)⟩, ?_⟩
          conv => whnf
          refine fit64 (by omega) ?_
          conv => whnf
          refine ⟨_, ?_, _, _, [bxk 2 [.f (.sl 11 (fun j => (p.c j).c) p.nc none), .f (.sl 5 (fun i => (p.r i).c) p.nr none)], (46, 1, .fa 3 (i + 1) (fun q => (sgnR p y q).c))], rfl, ⟨⟨rfl, rfl⟩, .refl _, ⟨rfl, rfl⟩, .fa fun q hq => more_rr (f := sgnR p y) hq (by rw [hsg]; rfl), trivial⟩, i + 1, hik, rfl, rfl, rfl⟩
          omega
      · have hv : signB (p.r i).s (y i).v = true := by rw [hsb, decide_eq_false a1, decide_eq_false a3]; simp
        have hsg : sgnR p y i = y i := by rw [hR, hv]; rfl
        conv => whnf
        refine splT (by simp only [decide_eq_true_eq, decide_eq_false_iff_not, Bool.not_eq_true', Bool.not_eq_false', gt_iff_lt, ge_iff_le] <;> omega) ?_
        conv => whnf
        refine ⟨(by (try simp only [true_and, and_true, Nat.sub_zero, Nat.zero_add, Int.toNat_natCast]) <;> omega), ?_⟩
        conv => whnf
        refine ⟨(by (try simp only [true_and, and_true, Nat.sub_zero, Nat.zero_add, Int.toNat_natCast]) <;> omega), ?_⟩
        conv => whnf
        refine splF (decide_eq_false a1) ?_
        conv => whnf
        refine splF (decide_eq_false a3) ?_
        conv => whnf
        refine ⟨⟨(show 1 ≤ 3 / 3 - 0 by decide), by omega, by omega, (show (i + 1) * 56 ≤ 140737488355328 by omega)⟩, ?_⟩
        conv => whnf
        refine fit64 (by omega) ?_
        conv => whnf
        refine ⟨_, ?_, _, _, [bxk 2 [.f (.sl 11 (fun j => (p.c j).c) p.nc none), .f (.sl 5 (fun i => (p.r i).c) p.nr none)], (46, 1, .fa 3 (i + 1) (fun q => (sgnR p y q).c))], rfl, ⟨⟨rfl, rfl⟩, .refl _, ⟨rfl, rfl⟩, .fa fun q hq => more_rr (f := sgnR p y) hq (by rw [hsg]; rfl), trivial⟩, i + 1, hik, rfl, rfl, rfl⟩
        omega
  · obtain rfl : i = p.nr := by omega
    conv => whnf
    refine splF (by simp only [decide_eq_true_eq, decide_eq_false_iff_not, Bool.not_eq_true', Bool.not_eq_false', gt_iff_lt, ge_iff_le] <;> omega) ?_
    conv => whnf
    exact ⟨_, _, _, rfl, .refl _, rfl, rfl, rfl⟩
theorem LinprogWeakDuality_ok {p : Pr} (hp : p.H) {x y : Nat → RR} {nx ny : Nat} (hx : XH x nx) (hy : XH y ny) (g h : Nat → Int) (n m : Nat) (hn : n ≤ 1099511627776) (hm : m ≤ 1099511627776) :
    ACall Tryz.prog 4 [p.a, rats x nx, rats y ny, nums g n, nums h m] (.f (.bool true)) := by
  have w1 := lawWeak_ok hp hx hy
  have g1 := gProgram_ok g n hn
  have t1 := gNew_ok h m
  obtain ⟨s1, s2, s3⟩ := tPr_small g n 0
  have hq := gen_H g n
  have r1 := gRats_ok h m 0 (tPr g n 0 4 4).nc hm (Nat.zero_le _) (by omega)
  have r2 := gRats_ok h m (tpos m (tPr g n 0 4 4).nc 0) (tPr g n 0 4 4).nr hm (tpos_le (Nat.zero_le _) _) (by omega)
  have x1 := gen_XH h m 0 (tPr g n 0 4 4).nc (by omega)
  have hsz : ∀ i j, (tRats h m i j).sz ≤ 4096 := fun i j => by show (RR.of _).sz ≤ _; rw [RR.of_sz]; exact Nat.le_trans (tR_sz _ _ _) (by omega)
  have l1 := lawSigned_ok hq (y := tRats h m (tpos m (tPr g n 0 4 4).nc 0)) (fun j _ => RR.of_ok _) (fun j _ => hsz _ _)
  have x2 := sgnR_xh (p := tPr g n 0 4 4) (y := tRats h m (tpos m (tPr g n 0 4 4).nc 0)) (n := (tPr g n 0 4 4).nr) (fun j _ => RR.of_ok _) (fun j _ => hsz _ _) (by omega)
  have w2 := lawWeak_ok hq x1 x2
  generalize tPr g n 0 4 4 = q at *
  generalize tpos m q.nc 0 = i1 at *
  generalize tpos m q.nr i1 = i2 at *
  refine acall_rule env [0, 1, 2, 3, 4, 5, 10, 11, 12] Tryz.func4 rfl rfl rfl rfl ?_
  conv => whnf
  first | refine callF g1 ⟨.refl _, trivial⟩ (by trivial) rfl ?_ | ((repeat (refine ⟨by kernel_rfl, ?_⟩; (conv => whnf))); refine callF g1 ⟨.refl _, trivial⟩ (by trivial) rfl ?_)
  conv => whnf
  refine callR [] t1 ?_
  conv => whnf
  refine ⟨⟨.refl _, trivial⟩, trivial, ?_⟩
  conv => whnf
  first | refine callF awake11_ok trivial (by trivial) rfl ?_ | ((repeat (refine ⟨by kernel_rfl, ?_⟩; (conv => whnf))); refine callF awake11_ok trivial (by trivial) rfl ?_)
  conv => whnf
  first | refine callF w1 ⟨.refl _, .refl _, .refl _, trivial⟩ (by trivial) rfl ?_ | ((repeat (refine ⟨by kernel_rfl, ?_⟩; (conv => whnf))); refine callF w1 ⟨.refl _, .refl _, .refl _, trivial⟩ (by trivial) rfl ?_)
  conv => whnf
  refine callR [16] r1 ?_
  conv => whnf
  refine ⟨⟨⟨rfl, rfl⟩, .refl _, trivial⟩, ⟨⟨.refl _, .refl _, trivial⟩, trivial⟩, ?_⟩
  conv => whnf
  refine callR [16] r2 ?_
  conv => whnf
  refine ⟨⟨⟨rfl, rfl⟩, .refl _, trivial⟩, ⟨⟨.refl _, .refl _, trivial⟩, trivial⟩, ?_⟩
  conv => whnf
  first | refine callF l1 ⟨.refl _, .refl _, trivial⟩ (by trivial) rfl ?_ | ((repeat (refine ⟨by kernel_rfl, ?_⟩; (conv => whnf))); refine callF l1 ⟨.refl _, .refl _, trivial⟩ (by trivial) rfl ?_)
  conv => whnf
  first | refine callF w2 ⟨.refl _, .refl _, .refl _, trivial⟩ (by trivial) rfl ?_ | ((repeat (refine ⟨by kernel_rfl, ?_⟩; (conv => whnf))); refine callF w2 ⟨.refl _, .refl _, .refl _, trivial⟩ (by trivial) rfl ?_)
  conv => whnf
  refine ⟨by kernel_rfl, ?_⟩
  conv => whnf
  (repeat (refine ⟨by kernel_rfl, ?_⟩; (conv => whnf)))
  refine ⟨(by (try simp only [true_and, and_true, Nat.sub_zero, Nat.zero_add, Int.toNat_natCast]) <;> omega), ?_⟩
  exact .refl _

theorem rem9 (w : Int) (h : 0 ≤ w ∧ w ≤ 255) : ∃ v : Nat, (w % 9 : Int) = v ∧ v < 9 := ⟨(w % 9).toNat, by omega, by omega⟩
def mixR (w : Rat) (a b : Nat → RR) (j : Nat) : RR := RR.of (w * (a j).v + (1 - w) * (b j).v)
theorem LinprogConvex_ok (g a1 b1 : Nat → Int) (n na nb : Nat) (w : Int) (hn : n ≤ 1099511627776) (hna : na ≤ 1099511627776) (hnb : nb ≤ 1099511627776) (hw : 0 ≤ w ∧ w ≤ 255) :
    ACall Tryz.prog 5 [nums g n, nums a1 na, nums b1 nb, .f (.int .u8 w)] (.f (.bool true)) := by
  have g1 := gProgram_ok g n hn
  have t1 := gNew_ok a1 na
  have t2 := gNew_ok b1 nb
  obtain ⟨s1, s2, s3⟩ := tPr_small g n 0
  have hq := gen_H g n
  have hqe := (tPr_ok g n 0).2.1
  have r1 := gRats_ok a1 na 0 (tPr g n 0 4 4).nc hna (Nat.zero_le _) (by omega)
  have r2 := gRats_ok b1 nb 0 (tPr g n 0 4 4).nc hnb (Nat.zero_le _) (by omega)
  have x1 := gen_XH a1 na 0 (tPr g n 0 4 4).nc (by omega)
  have x2 := gen_XH b1 nb 0 (tPr g n 0 4 4).nc (by omega)
  have zs : ∀ (h : Nat → Int) m j, rsz (tRats h m 0 j).v ≤ 1 := fun h m j => by show rsz (RR.of _).v ≤ 1; rw [RR.of_v]; exact tR_sz _ _ _
  have z1 := zs a1 na
  have z2 := zs b1 nb
  have hA1 : ∀ j, (tRats a1 na 0 j).Ok := fun j => RR.of_ok _
  have hA2 : ∀ j, (tRats b1 nb 0 j).Ok := fun j => RR.of_ok _
  have hA3 : ∀ j, (tRats a1 na 0 j).sz ≤ 1 := fun j => by show (RR.of _).sz ≤ 1; rw [RR.of_sz]; exact tR_sz _ _ _
  have hA4 : ∀ j, (tRats b1 nb 0 j).sz ≤ 1 := fun j => by show (RR.of _).sz ≤ 1; rw [RR.of_sz]; exact tR_sz _ _ _
  obtain ⟨v, hv, hv9⟩ := rem9 w hw
  have o1 := sOf_ok v 8 (by omega) (by omega)
  have zw : rsz (Rat.divInt v 8) ≤ 1 := rsz_divInt (isz_one (by omega)) (isz_one (by omega)) (Nat.le_refl _)
  have w0 : (0 : Rat) ≤ Rat.divInt v 8 ∧ Rat.divInt v 8 ≤ 1 := by
    rcases (show v = 0 ∨ v = 1 ∨ v = 2 ∨ v = 3 ∨ v = 4 ∨ v = 5 ∨ v = 6 ∨ v = 7 ∨ v = 8 by omega) with h | h | h | h | h | h | h | h | h <;> rw [h] <;> decide +kernel
  have i1 := sFromInt_ok 1 (by decide)
  generalize tRats a1 na 0 = A at *
  generalize tRats b1 nb 0 = B at *
  generalize Rat.divInt v 8 = W at *
  have h1W : rsz (1 - W) ≤ 3 := Nat.le_trans (rsz_sub (show rsz (1 : Rat) ≤ 1 by decide) zw) (by omega)
  have d1 := sSub_ok (isR_rat ((1 : Int) : Rat) (show rsz ((1 : Int) : Rat) ≤ 1 by decide)) (isR_rat W zw) (by omega)
  change ACall Tryz.prog _ _ (rat (1 - W)) at d1
  have m1 := fun j => sMul_ok (isR_rat W zw) (hA1 j).is (by have := hA3 j; omega)
  have m2 := fun j => sMul_ok (isR_rat _ h1W) (hA2 j).is (by have := hA4 j; omega)
  have zm1 : ∀ j, rsz (W * (A j).v) ≤ 2 := fun j => rsz_mul zw (z1 j)
  have zm2 : ∀ j, rsz ((1 - W) * (B j).v) ≤ 4 := fun j => rsz_mul h1W (z2 j)
  have ad := fun j => sAdd_ok (isR_rat _ (zm1 j)) (isR_rat _ (zm2 j)) (by omega)
  have x3 : XH (mixR W A B) (tPr g n 0 4 4).nc := xh_of (fun j _ => RR.of_ok _) (fun j _ => by show (RR.of _).sz ≤ _; rw [RR.of_sz]; exact Nat.le_trans (rsz_add (zm1 j) (zm2 j)) (by omega)) (by omega)
  have hmix : ∀ j, j < (tPr g n 0 4 4).nc → (mixR W A B j).v = W * (A j).v + (1 - W) * (B j).v := fun j _ => RR.of_v _
  have e1 := lpObjective_ok hq x1
  have e2 := lpObjective_ok hq x2
  have e3 := lpObjective_ok hq x3
  have f1 := lpFeasible_ok hq x1
  have f2 := lpFeasible_ok hq x2
  have f3 := lpFeasible_ok hq x3
  rw [objRes, if_neg (fun h => h (errS_zero.2 ⟨hqe, rfl⟩))] at e1 e2 e3
  have y1 := obj_sz hq x1 hqe rfl
  have y2 := obj_sz hq x2 hqe rfl
  have y3 := obj_sz hq x3 hqe rfl
  have ho := obj_mix hmix
  have hf := fun ha hb => feas_mix (n := (tPr g n 0 4 4).nc) w0.1 w0.2 hmix ha hb
  have mn := sMin_ok (isR_rat _ y1) (isR_rat _ y2) (by omega)
  have mx := sMax_ok (isR_rat _ y1) (isR_rat _ y2) (by omega)
  have l1 := rmin_le ((tPr g n 0 4 4).obj A) ((tPr g n 0 4 4).obj B)
  have l2 := rmax_ge ((tPr g n 0 4 4).obj A) ((tPr g n 0 4 4).obj B)
  have zmn : rsz (rmin ((tPr g n 0 4 4).obj A) ((tPr g n 0 4 4).obj B)) ≤ 137455730690 := by rcases l1.2.2 with e | e <;> rw [e] <;> assumption
  have zmx : rsz (rmax ((tPr g n 0 4 4).obj A) ((tPr g n 0 4 4).obj B)) ≤ 137455730690 := by rcases l2.2.2 with e | e <;> rw [e] <;> assumption
  have c1 := sCompare_ok (isR_rat _ y3) (isR_rat _ zmn) (by omega)
  have c2 := sCompare_ok (isR_rat _ y3) (isR_rat _ zmx) (by omega)
  have hc1 : ¬ rcmp ((tPr g n 0 4 4).obj (mixR W A B)) (rmin ((tPr g n 0 4 4).obj A) ((tPr g n 0 4 4).obj B)) < 0 := by
    have : rmin ((tPr g n 0 4 4).obj A) ((tPr g n 0 4 4).obj B) ≤ (tPr g n 0 4 4).obj (mixR W A B) := by rw [ho]; exact mix_ge w0.1 w0.2 l1.1 l1.2.1
    have := rcmp_le.2 this
    rw [rcmp_neg] at this; omega
  have hc2 : ¬ rcmp ((tPr g n 0 4 4).obj (mixR W A B)) (rmax ((tPr g n 0 4 4).obj A) ((tPr g n 0 4 4).obj B)) > 0 := by
    have : (tPr g n 0 4 4).obj (mixR W A B) ≤ rmax ((tPr g n 0 4 4).obj A) ((tPr g n 0 4 4).obj B) := by rw [ho]; exact mix_le w0.1 w0.2 l2.1 l2.2.1
    have := rcmp_le.2 this
    omega
  have hM : ∀ j, W * (A j).v + (1 - W) * (B j).v = (mixR W A B j).v := fun j => (RR.of_v _).symm
  have hMa : ∀ j, (mixR W A B j) = RR.of (W * (A j).v + (1 - W) * (B j).v) := fun j => rfl
  clear ho l1 l2
  generalize tPr g n 0 4 4 = q at *
  generalize mixR W A B = X at *
  generalize q.obj A = oA at *
  generalize q.obj B = oB at *
  generalize q.obj X = oX at *
  generalize rmin oA oB = oN at *
  generalize rmax oA oB = oM at *
  generalize rcmp oX oN = K1 at *
  generalize rcmp oX oM = K2 at *
  generalize tpos na q.nc 0 = ia at *
  generalize tpos nb q.nc 0 = ib at *
  refine acall_rule env [0, 1, 2, 3, 8, 9, 10, 11, 12, 13, 14, 15, 17, 19, 20, 43, 103] Tryz.func5 rfl rfl rfl rfl ?_
  conv => whnf
  first | refine callF g1 ⟨.refl _, trivial⟩ (by trivial) rfl ?_ | ((repeat (refine ⟨by kernel_rfl, ?_⟩; (conv => whnf))); refine callF g1 ⟨.refl _, trivial⟩ (by trivial) rfl ?_)
  conv => whnf
  refine callR [] t1 ?_
  conv => whnf
  refine ⟨⟨.refl _, trivial⟩, trivial, ?_⟩
  conv => whnf
  refine callR [24] r1 ?_
  conv => whnf
  refine ⟨⟨⟨rfl, rfl⟩, .refl _, trivial⟩, ⟨⟨.refl _, .refl _, trivial⟩, trivial⟩, ?_⟩
  conv => whnf
  refine callR [] t2 ?_
  conv => whnf
  refine ⟨⟨.refl _, trivial⟩, trivial, ?_⟩
  conv => whnf
  refine callR [30] r2 ?_
  conv => whnf
  refine ⟨⟨⟨rfl, rfl⟩, .refl _, trivial⟩, ⟨⟨.refl _, .refl _, trivial⟩, trivial⟩, ?_⟩
  conv => whnf
  refine ⟨by kernel_rfl, ?_⟩
  conv => whnf
  refine ⟨by decide, ?_⟩
  conv => whnf
  refine .asV (v : Int) (by rw [Int.tmod_eq_emod_of_nonneg hw.1]; exact hv) ?_
  conv => whnf
  refine sumi64 v rfl (by omega) ?_
  conv => whnf
  first | refine callF o1 ⟨.refl _, .refl _, trivial⟩ (by trivial) rfl ?_ | ((repeat (refine ⟨by kernel_rfl, ?_⟩; (conv => whnf))); refine callF o1 ⟨.refl _, .refl _, trivial⟩ (by trivial) rfl ?_)
  conv => whnf
  refine .weak (nil_weak 13 63 3 (by decide) rfl rfl) ?_
  refine loop_mod [8, 9, 10, 11, 12, 13, 14] [9, 12, 63] [8, 9, 10, 11, 13] [9, 63]
    (fun μ fr hp_ => ∃ i : Nat, i ≤ q.nc ∧ fr = [(8, .f (.bool false)), bpk 9 2, (10, rats A q.nc), (11, rats B q.nc), bp3 12, (13, .lsl 63 1 3 0 i none), (14, .f (.int .i64 i))] ∧
      hp_ = [bxk 9 [.f (.sl 11 (fun j => (q.c j).c) q.nc none), .f (.sl 5 (fun i => (q.r i).c) q.nr none)], bx3 12 (ratL W), (63, 1, .fa 3 i (fun j => (X j).c))] ∧ μ = q.nc - i)
    (fun e fr hp_ => e = .exit 0 ∧ fr = [(8, .f (.bool false)), bpk 9 2, (10, rats A q.nc), (11, rats B q.nc), (13, .lsl 63 1 3 0 q.nc none)] ∧
      hp_ = [bxk 9 [.f (.sl 11 (fun j => (q.c j).c) q.nc none), .f (.sl 5 (fun i => (q.r i).c) q.nr none)], (63, 1, .fa 3 q.nc (fun j => (X j).c))])
    ⟨_, _, _, _, rfl, ?_, 0, Nat.zero_le _, rfl, rfl, rfl⟩ ?_ ?_
  · exact ⟨⟨rfl, rfl⟩, .refl _, ⟨rfl, rfl⟩, .refl _, ⟨rfl, rfl⟩, .fa fun j hj => absurd hj (Nat.not_lt_zero _), trivial⟩
  · rintro _ _ _ ⟨rfl, rfl, rfl⟩
    conv => whnf
    first | refine callF e1 ⟨.refl _, .refl _, trivial⟩ (by trivial) rfl ?_ | ((repeat (refine ⟨by kernel_rfl, ?_⟩; (conv => whnf))); refine callF e1 ⟨.refl _, .refl _, trivial⟩ (by trivial) rfl ?_)
    conv => whnf
    first | refine callF e2 ⟨.refl _, .refl _, trivial⟩ (by trivial) rfl ?_ | ((repeat (refine ⟨by kernel_rfl, ?_⟩; (conv => whnf))); refine callF e2 ⟨.refl _, .refl _, trivial⟩ (by trivial) rfl ?_)
    conv => whnf
    refine callF e3 ⟨.refl _, .f (.sl (fun j hj => by simp only [Nat.zero_add]; exact .fle_rr _) (.inl rfl)), trivial⟩ (by simp) rfl ?_
    conv => whnf
    first | refine callF awake11_ok trivial (by trivial) rfl ?_ | ((repeat (refine ⟨by kernel_rfl, ?_⟩; (conv => whnf))); refine callF awake11_ok trivial (by trivial) rfl ?_)
    conv => whnf
    first | refine callF mn ⟨.refl _, .refl _, trivial⟩ (by trivial) rfl ?_ | ((repeat (refine ⟨by kernel_rfl, ?_⟩; (conv => whnf))); refine callF mn ⟨.refl _, .refl _, trivial⟩ (by trivial) rfl ?_)
    conv => whnf
    first | refine callF c1 ⟨.refl _, .refl _, trivial⟩ (by trivial) rfl ?_ | ((repeat (refine ⟨by kernel_rfl, ?_⟩; (conv => whnf))); refine callF c1 ⟨.refl _, .refl _, trivial⟩ (by trivial) rfl ?_)
    conv => whnf
    refine splF (decide_eq_false hc1) ?_
    conv => whnf
    first | refine callF mx ⟨.refl _, .refl _, trivial⟩ (by trivial) rfl ?_ | ((repeat (refine ⟨by kernel_rfl, ?_⟩; (conv => whnf))); refine callF mx ⟨.refl _, .refl _, trivial⟩ (by trivial) rfl ?_)
    conv => whnf
    first | refine callF c2 ⟨.refl _, .refl _, trivial⟩ (by trivial) rfl ?_ | ((repeat (refine ⟨by kernel_rfl, ?_⟩; (conv => whnf))); refine callF c2 ⟨.refl _, .refl _, trivial⟩ (by trivial) rfl ?_)
    conv => whnf
    refine ⟨by kernel_rfl, ?_⟩
    conv => whnf
    refine splF (decide_eq_false hc2) ?_
    conv => whnf
    cases hfa : q.feas A q.nc with
    | false =>
      rw [hfa] at f1
      first | refine callF f1 ⟨.refl _, .refl _, trivial⟩ (by trivial) rfl ?_ | ((repeat (refine ⟨by kernel_rfl, ?_⟩; (conv => whnf))); refine callF f1 ⟨.refl _, .refl _, trivial⟩ (by trivial) rfl ?_)
      conv => whnf
      (repeat (refine ⟨by kernel_rfl, ?_⟩; (conv => whnf)))
      refine ⟨(by (try simp only [true_and, and_true, Nat.sub_zero, Nat.zero_add, Int.toNat_natCast]) <;> omega), ?_⟩
      exact .refl _
    | true =>
      rw [hfa] at f1
      cases hfb : q.feas B q.nc with
      | false =>
        rw [hfb] at f2
        first | refine callF f1 ⟨.refl _, .refl _, trivial⟩ (by trivial) rfl ?_ | ((repeat (refine ⟨by kernel_rfl, ?_⟩; (conv => whnf))); refine callF f1 ⟨.refl _, .refl _, trivial⟩ (by trivial) rfl ?_)
        conv => whnf
        first | refine callF f2 ⟨.refl _, .refl _, trivial⟩ (by trivial) rfl ?_ | ((repeat (refine ⟨by kernel_rfl, ?_⟩; (conv => whnf))); refine callF f2 ⟨.refl _, .refl _, trivial⟩ (by trivial) rfl ?_)
        conv => whnf
        (repeat (refine ⟨by kernel_rfl, ?_⟩; (conv => whnf)))
        refine ⟨(by (try simp only [true_and, and_true, Nat.sub_zero, Nat.zero_add, Int.toNat_natCast]) <;> omega), ?_⟩
        exact .refl _
      | true =>
        rw [hfb] at f2
        rw [hf hfa hfb] at f3
        first | refine callF f1 ⟨.refl _, .refl _, trivial⟩ (by trivial) rfl ?_ | ((repeat (refine ⟨by kernel_rfl, ?_⟩; (conv => whnf))); refine callF f1 ⟨.refl _, .refl _, trivial⟩ (by trivial) rfl ?_)
        conv => whnf
        first | refine callF f2 ⟨.refl _, .refl _, trivial⟩ (by trivial) rfl ?_ | ((repeat (refine ⟨by kernel_rfl, ?_⟩; (conv => whnf))); refine callF f2 ⟨.refl _, .refl _, trivial⟩ (by trivial) rfl ?_)
        conv => whnf
        refine callF f3 ⟨.refl _, .f (.sl (fun j hj => by simp only [Nat.zero_add]; exact .fle_rr _) (.inl rfl)), trivial⟩ (by simp) rfl ?_
        conv => whnf
        (repeat (refine ⟨by kernel_rfl, ?_⟩; (conv => whnf)))
        refine ⟨(by (try simp only [true_and, and_true, Nat.sub_zero, Nat.zero_add, Int.toNat_natCast]) <;> omega), ?_⟩
        exact .refl _
  rintro μ _ _ ⟨i, hi, rfl, rfl, rfl⟩
  by_cases hik : i < q.nc
  · have a1 := m1 i
    have a2 := m2 i
    have a3 := ad i
    have hXi := hMa i
    conv => whnf
    refine splT (by simp only [decide_eq_true_eq, decide_eq_false_iff_not, Bool.not_eq_true', Bool.not_eq_false', gt_iff_lt, ge_iff_le] <;> omega) ?_
    conv => whnf
    refine ⟨(by (try simp only [true_and, and_true, Nat.sub_zero, Nat.zero_add, Int.toNat_natCast]) <;> omega), ?_⟩
    conv => whnf
    first | refine callF a1 ⟨.refl _, .refl _, trivial⟩ (by trivial) rfl ?_ | ((repeat (refine ⟨by kernel_rfl, ?_⟩; (conv => whnf))); refine callF a1 ⟨.refl _, .refl _, trivial⟩ (by trivial) rfl ?_)
    conv => whnf
    first | refine callF i1 ⟨.refl _, trivial⟩ (by trivial) rfl ?_ | ((repeat (refine ⟨by kernel_rfl, ?_⟩; (conv => whnf))); refine callF i1 ⟨.refl _, trivial⟩ (by trivial) rfl ?_)
    conv => whnf
    first | refine callF d1 ⟨.refl _, .refl _, trivial⟩ (by trivial) rfl ?_ | ((repeat (refine ⟨by kernel_rfl, ?_⟩; (conv => whnf))); refine callF d1 ⟨.refl _, .refl _, trivial⟩ (by trivial) rfl ?_)
    conv => whnf
    refine ⟨(by (try simp only [true_and, and_true, Nat.sub_zero, Nat.zero_add, Int.toNat_natCast]) <;> omega), ?_⟩
    conv => whnf
    first | refine callF a2 ⟨.refl _, .refl _, trivial⟩ (by trivial) rfl ?_ | ((repeat (refine ⟨by kernel_rfl, ?_⟩; (conv => whnf))); refine callF a2 ⟨.refl _, .refl _, trivial⟩ (by trivial) rfl ?_)
    conv => whnf
    first | refine callF a3 ⟨.refl _, .refl _, trivial⟩ (by trivial) rfl ?_ | ((repeat (refine ⟨by kernel_rfl, ?_⟩; (conv => whnf))); refine callF a3 ⟨.refl _, .refl _, trivial⟩ (by trivial) rfl ?_)
    conv => whnf
    refine ⟨⟨(show 1 ≤ 3 / 3 - 0 by decide), by omega, by omega, (show (i + 1) * 56 ≤ 140737488355328 by omega)⟩, ?_⟩
    conv => whnf
    refine ⟨by kernel_rfl, ?_⟩
    conv => whnf
    refine fit64 (by omega) ?_
    conv => whnf
    refine ⟨_, ?_, _, _, [bxk 9 [.f (.sl 11 (fun j => (q.c j).c) q.nc none), .f (.sl 5 (fun i => (q.r i).c) q.nr none)], bx3 12 (ratL W), (63, 1, .fa 3 (i + 1) (fun j => (X j).c))], rfl, ⟨⟨rfl, rfl⟩, .refl _, ⟨rfl, rfl⟩, .refl _, ⟨rfl, rfl⟩, .fa fun j hj => more_rr (f := X) hj (by rw [hXi]; rfl), trivial⟩, i + 1, hik, rfl, rfl, rfl⟩
    omega
  · obtain rfl : i = q.nc := by omega
    conv => whnf
    refine splF (by simp only [decide_eq_true_eq, decide_eq_false_iff_not, Bool.not_eq_true', Bool.not_eq_false', gt_iff_lt, ge_iff_le] <;> omega) ?_
    conv => whnf
    exact ⟨_, _, _, rfl, .refl _, rfl, rfl, rfl⟩
end Go.Abs

/- The reference's linear programs: which are valid. -/
set_option autoImplicit false
set_option maxHeartbeats 4000000
set_option maxRecDepth 10000
set_option linter.unusedVariables false
set_option linter.unusedSimpArgs false
namespace Go.Abs
open Go Go.Proofs

theorem refCrossed_ok {c : Co} (hc : c.Ok) (hs : c.sz ≤ 1099511627776) : ACall Tryz.prog 35 [c.a] (.f (.bool c.cross)) := by
  unfold Co.sz at hs
  have k1 := sCompare_ok hc.lo.is hc.up.is (by omega)
  have hx : decide (rcmp c.lo.v c.up.v > 0) = decide (c.up.v < c.lo.v) := decide_eq_decide.2 rcmp_pos
  unfold Co.cross
  rw [← hx]
  generalize rcmp c.lo.v c.up.v = C at *
  by_cases h1 : c.hl = true
  · by_cases h2 : c.hu = true
    · refine acall_rule env [0, 1, 2] Tryz.func35 rfl rfl rfl rfl ?_
      conv => whnf
      refine splT h1 ?_
      conv => whnf
      refine splT h2 ?_
      conv => whnf
      first | refine callF k1 ⟨.refl _, .refl _, trivial⟩ (by trivial) rfl ?_ | ((repeat (refine ⟨by kernel_rfl, ?_⟩; (conv => whnf))); refine callF k1 ⟨.refl _, .refl _, trivial⟩ (by trivial) rfl ?_)
      conv => whnf
      refine ⟨(by (try simp only [true_and, and_true, Nat.sub_zero, Nat.zero_add, Int.toNat_natCast]) <;> omega), ?_⟩
      exact .bool_of (by rw [h1, h2]; simp)
    · refine acall_rule env [0, 1, 2] Tryz.func35 rfl rfl rfl rfl ?_
      conv => whnf
      refine splT h1 ?_
      conv => whnf
      refine splF (by simpa using h2) ?_
      conv => whnf
      refine ⟨(by (try simp only [true_and, and_true, Nat.sub_zero, Nat.zero_add, Int.toNat_natCast]) <;> omega), ?_⟩
      exact .bool_of (by rw [h1]; simp [h2])
  · refine acall_rule env [0, 1, 2] Tryz.func35 rfl rfl rfl rfl ?_
    conv => whnf
    refine splF (by simpa using h1) ?_
    conv => whnf
    refine ⟨(by (try simp only [true_and, and_true, Nat.sub_zero, Nat.zero_add, Int.toNat_natCast]) <;> omega), ?_⟩
    exact .bool_of (by simp [h1])
theorem refVecValid_ok {e : Nat → En} {k : Nat} (n : Int) (he : ∀ j, j < k → (e j).Ok) (hs : ∀ j, j < k → (e j).v.sz ≤ 1099511627776) (hk : k ≤ 1099511627776) (hn : 0 ≤ n ∧ n ≤ 1099511627776) :
    ACall Tryz.prog 112 [ents e k, .f (.int .i64 n)] (.f (.bool (allB (entB e n.toNat) k))) := by
  obtain ⟨n, rfl⟩ : ∃ m : Nat, n = m := ⟨n.toNat, by omega⟩
  rw [Int.toNat_natCast]
  obtain ⟨B, hB⟩ : ∃ B, allB (entB e n) k = B := ⟨_, rfl⟩
  rw [hB]
  refine acall_rule env [0, 1, 4, 5, 9, 53] Tryz.func112 rfl rfl rfl rfl ?_
  conv => whnf
  refine loop_mod [0, 1, 4, 5] [] [4] []
    (fun μ fr hp => ∃ i : Nat, i ≤ k ∧ allB (entB e n) i = true ∧ fr = [(0, ents e k), (1, .f (.int .i64 n)), (4, .f (.bool false)), (5, .f (.int .i64 i))] ∧ hp = [] ∧ μ = k - i)
    (fun x fr hp => (x = .exit 0 ∧ B = true ∧ fr = [(4, .f (.bool false))] ∧ hp = []) ∨ (x = .ret ∧ B = false ∧ fr = [(4, .f (.bool false))] ∧ hp = []))
    ⟨_, _, _, _, rfl, .refl _, 0, Nat.zero_le _, rfl, rfl, rfl, rfl⟩ ?_ ?_
  · rintro _ _ _ (⟨rfl, rfl, rfl, rfl⟩ | ⟨rfl, rfl, rfl, rfl⟩)
    · conv => whnf
      (repeat (refine ⟨by kernel_rfl, ?_⟩; (conv => whnf)))
      refine ⟨(by (try simp only [true_and, and_true, Nat.sub_zero, Nat.zero_add, Int.toNat_natCast]) <;> omega), ?_⟩
      exact .refl _
    · conv => whnf
      (repeat (refine ⟨by kernel_rfl, ?_⟩; (conv => whnf)))
      refine ⟨(by (try simp only [true_and, and_true, Nat.sub_zero, Nat.zero_add, Int.toNat_natCast]) <;> omega), ?_⟩
      exact .refl _
  rintro μ _ _ ⟨i, hi, hall, rfl, rfl, rfl⟩
  by_cases hik : i < k
  · have hf := fun h => hB.symm.trans (allB_false hik h)
    have s1 := sSign_ok (he i hik).v.is (by have := hs i hik; omega)
    have hb : allB (entB e n) (i + 1) = entB e n i := by rw [allB, hall, Bool.true_and]
    have hei : entB e n i = (decide (prevI e i < (e i).i) && decide ((e i).i < n) && decide ((e i).v.v ≠ 0)) := rfl
    rw [hei] at hf hb
    have hx0 : rcmp (e i).v.v 0 = 0 ↔ (e i).v.v = 0 := rcmp_zero
    generalize rcmp (e i).v.v 0 = C at *
    rcases Nat.eq_zero_or_pos i with h0 | h0
    · have hL : prevI e i = -1 := by rw [h0]; rfl
      rw [hL] at hf hb
      conv => whnf
      refine splT (by simp only [decide_eq_true_eq, decide_eq_false_iff_not, Bool.not_eq_true', Bool.not_eq_false', gt_iff_lt, ge_iff_le] <;> omega) ?_
      conv => whnf
      refine ⟨(by (try simp only [true_and, and_true, Nat.sub_zero, Nat.zero_add, Int.toNat_natCast]) <;> omega), ?_⟩
      conv => whnf
      by_cases h1 : (e i).i < 0
      · refine splT (decide_eq_true h1) ?_
        conv => whnf
        refine ⟨by kernel_rfl, ?_⟩
        conv => whnf
        exact ⟨_, _, _, rfl, .refl _, .inr ⟨rfl, hf (by rw [decide_eq_false (by omega)]; rfl), rfl, rfl⟩⟩
      refine splF (decide_eq_false h1) ?_
      conv => whnf
      refine ⟨(by (try simp only [true_and, and_true, Nat.sub_zero, Nat.zero_add, Int.toNat_natCast]) <;> omega), ?_⟩
      conv => whnf
      by_cases h2 : (e i).i ≥ n
      · refine splT (decide_eq_true h2) ?_
        conv => whnf
        refine ⟨by kernel_rfl, ?_⟩
        conv => whnf
        exact ⟨_, _, _, rfl, .refl _, .inr ⟨rfl, hf (by rw [decide_eq_false (show ¬ (e i).i < n by omega), Bool.and_false]; rfl), rfl, rfl⟩⟩
      refine splF (decide_eq_false h2) ?_
      conv => whnf
      refine splF (decide_eq_false (by omega)) ?_
      conv => whnf
      refine ⟨(by (try simp only [true_and, and_true, Nat.sub_zero, Nat.zero_add, Int.toNat_natCast]) <;> omega), ?_⟩
      conv => whnf
      first | refine callF s1 ⟨.refl _, trivial⟩ (by trivial) rfl ?_ | ((repeat (refine ⟨by kernel_rfl, ?_⟩; (conv => whnf))); refine callF s1 ⟨.refl _, trivial⟩ (by trivial) rfl ?_)
      conv => whnf
      by_cases h3 : C = 0
      · refine ⟨by kernel_rfl, ?_⟩
        conv => whnf
        refine splT (decide_eq_true h3) ?_
        conv => whnf
        exact ⟨_, _, _, rfl, .refl _, .inr ⟨rfl, hf (by rw [decide_eq_false (show ¬ (e i).v.v ≠ 0 from fun h => h (hx0.1 h3)), Bool.and_false]), rfl, rfl⟩⟩
      refine ⟨by kernel_rfl, ?_⟩
      conv => whnf
      refine splF (decide_eq_false h3) ?_
      conv => whnf
      refine fit64 (by omega) ?_
      conv => whnf
      refine ⟨_, ?_, _, _, _, rfl, .refl _, i + 1, hik, ?_, rfl, rfl, rfl⟩
      · omega
      · rw [hb, decide_eq_true (show -1 < (e i).i by omega), decide_eq_true (show (e i).i < n by omega), decide_eq_true (show (e i).v.v ≠ 0 from fun h => h3 (hx0.2 h))]; rfl
    · obtain ⟨i', rfl⟩ : ∃ i', i = i' + 1 := ⟨i - 1, by omega⟩
      have hL : prevI e (i' + 1) = (e i').i := rfl
      have hp := (ent_range hall i' (by omega)).1
      rw [hL] at hf hb
      conv => whnf
      refine splT (by simp only [decide_eq_true_eq, decide_eq_false_iff_not, Bool.not_eq_true', Bool.not_eq_false', gt_iff_lt, ge_iff_le] <;> omega) ?_
      conv => whnf
      refine ⟨(by (try simp only [true_and, and_true, Nat.sub_zero, Nat.zero_add, Int.toNat_natCast]) <;> omega), ?_⟩
      conv => whnf
      by_cases h1 : (e (i' + 1)).i < 0
      · refine splT (decide_eq_true h1) ?_
        conv => whnf
        refine ⟨by kernel_rfl, ?_⟩
        conv => whnf
        exact ⟨_, _, _, rfl, .refl _, .inr ⟨rfl, hf (by rw [decide_eq_false (by omega)]; rfl), rfl, rfl⟩⟩
      refine splF (decide_eq_false h1) ?_
      conv => whnf
      refine ⟨(by (try simp only [true_and, and_true, Nat.sub_zero, Nat.zero_add, Int.toNat_natCast]) <;> omega), ?_⟩
      conv => whnf
      by_cases h2 : (e (i' + 1)).i ≥ n
      · refine splT (decide_eq_true h2) ?_
        conv => whnf
        refine ⟨by kernel_rfl, ?_⟩
        conv => whnf
        exact ⟨_, _, _, rfl, .refl _, .inr ⟨rfl, hf (by rw [decide_eq_false (show ¬ (e (i' + 1)).i < n by omega), Bool.and_false]; rfl), rfl, rfl⟩⟩
      refine splF (decide_eq_false h2) ?_
      conv => whnf
      refine splT (decide_eq_true (by omega)) ?_
      conv => whnf
      refine ⟨(by (try simp only [true_and, and_true, Nat.sub_zero, Nat.zero_add, Int.toNat_natCast]) <;> omega), ?_⟩
      conv => whnf
      refine sumi64 i' (by omega) (by omega) ?_
      conv => whnf
      refine ⟨(by (try simp only [true_and, and_true, Nat.sub_zero, Nat.zero_add, Int.toNat_natCast]) <;> omega), ?_⟩
      conv => whnf
      by_cases h4 : (e (i' + 1)).i ≤ (e i').i
      · refine splT (decide_eq_true h4) ?_
        conv => whnf
        refine ⟨by kernel_rfl, ?_⟩
        conv => whnf
        exact ⟨_, _, _, rfl, .refl _, .inr ⟨rfl, hf (by rw [decide_eq_false (show ¬ (e i').i < (e (i' + 1)).i by omega)]; rfl), rfl, rfl⟩⟩
      refine splF (decide_eq_false h4) ?_
      conv => whnf
      refine ⟨(by (try simp only [true_and, and_true, Nat.sub_zero, Nat.zero_add, Int.toNat_natCast]) <;> omega), ?_⟩
      conv => whnf
      first | refine callF s1 ⟨.refl _, trivial⟩ (by trivial) rfl ?_ | ((repeat (refine ⟨by kernel_rfl, ?_⟩; (conv => whnf))); refine callF s1 ⟨.refl _, trivial⟩ (by trivial) rfl ?_)
      conv => whnf
      by_cases h3 : C = 0
      · refine ⟨by kernel_rfl, ?_⟩
        conv => whnf
        refine splT (decide_eq_true h3) ?_
        conv => whnf
        exact ⟨_, _, _, rfl, .refl _, .inr ⟨rfl, hf (by rw [decide_eq_false (show ¬ (e (i' + 1)).v.v ≠ 0 from fun h => h (hx0.1 h3)), Bool.and_false]), rfl, rfl⟩⟩
      refine ⟨by kernel_rfl, ?_⟩
      conv => whnf
      refine splF (decide_eq_false h3) ?_
      conv => whnf
      refine fit64 (by omega) ?_
      conv => whnf
      refine ⟨_, ?_, _, _, _, rfl, .refl _, i' + 1 + 1, hik, ?_, rfl, rfl, rfl⟩
      · omega
      · rw [hb, decide_eq_true (show (e i').i < (e (i' + 1)).i by omega), decide_eq_true (show (e (i' + 1)).i < n by omega), decide_eq_true (show (e (i' + 1)).v.v ≠ 0 from fun h => h3 (hx0.2 h))]; rfl
  · obtain rfl : i = k := by omega
    conv => whnf
    refine splF (by simp only [decide_eq_true_eq, decide_eq_false_iff_not, Bool.not_eq_true', Bool.not_eq_false', gt_iff_lt, ge_iff_le] <;> omega) ?_
    conv => whnf
    exact ⟨_, _, _, rfl, .refl _, .inl ⟨rfl, by rw [← hB, hall], rfl, rfl⟩⟩
def rowErr (r : Ro) (n : Nat) : Int := if r.ok n then 0 else 1
theorem AVle.int_of2 {k : IntKind} {a b : Int} (h : a = b) : AVle (.f (.int k a)) (.f (.int k b)) := h ▸ .refl _
theorem refRowError_ok {r : Ro} (n : Nat) (hr : r.Ok) (hs : r.sz ≤ 1099511627776) (hk : r.k ≤ 1099511627776) (hn : n ≤ 1099511627776) : ACall Tryz.prog 79 [r.a, .f (.int .i64 n)] (.f (.int .i64 (rowErr r n))) := by
  have v1 := refVecValid_ok (e := r.e) (k := r.k) (n : Nat) hr.e (fun j hj => by have := Ro.esz_get hj; unfold Ro.sz at hs; omega) hk (by omega)
  rw [Int.toNat_natCast] at v1
  unfold rowErr Ro.ok
  obtain ⟨V, hV⟩ : ∃ V, allB (entB r.e n) r.k = V := ⟨_, rfl⟩
  rw [hV] at v1 ⊢
  by_cases h1 : r.s = -1
  · cases V
    · refine acall_rule env [0, 1, 2, 4, 24] Tryz.func79 rfl rfl rfl rfl ?_
      conv => whnf
      refine splF (by simp [h1]) ?_
      conv => whnf
      first | refine callF v1 ⟨.refl _, .refl _, trivial⟩ (by trivial) rfl ?_ | ((repeat (refine ⟨by kernel_rfl, ?_⟩; (conv => whnf))); refine callF v1 ⟨.refl _, .refl _, trivial⟩ (by trivial) rfl ?_)
      conv => whnf
      refine ⟨(by (try simp only [true_and, and_true, Nat.sub_zero, Nat.zero_add, Int.toNat_natCast]) <;> omega), ?_⟩
      exact .int_of2 (by simp [h1])
    · refine acall_rule env [0, 1, 2, 4, 24] Tryz.func79 rfl rfl rfl rfl ?_
      conv => whnf
      refine splF (by simp [h1]) ?_
      conv => whnf
      first | refine callF v1 ⟨.refl _, .refl _, trivial⟩ (by trivial) rfl ?_ | ((repeat (refine ⟨by kernel_rfl, ?_⟩; (conv => whnf))); refine callF v1 ⟨.refl _, .refl _, trivial⟩ (by trivial) rfl ?_)
      conv => whnf
      refine ⟨(by (try simp only [true_and, and_true, Nat.sub_zero, Nat.zero_add, Int.toNat_natCast]) <;> omega), ?_⟩
      exact .int_of2 (by simp [h1])
  by_cases h2 : r.s = 0
  · cases V
    · refine acall_rule env [0, 1, 2, 4, 24] Tryz.func79 rfl rfl rfl rfl ?_
      conv => whnf
      refine splT (by simp [h1]) ?_
      conv => whnf
      refine splF (by simp [h2]) ?_
      conv => whnf
      first | refine callF v1 ⟨.refl _, .refl _, trivial⟩ (by trivial) rfl ?_ | ((repeat (refine ⟨by kernel_rfl, ?_⟩; (conv => whnf))); refine callF v1 ⟨.refl _, .refl _, trivial⟩ (by trivial) rfl ?_)
      conv => whnf
      refine ⟨(by (try simp only [true_and, and_true, Nat.sub_zero, Nat.zero_add, Int.toNat_natCast]) <;> omega), ?_⟩
      exact .int_of2 (by simp [h2])
    · refine acall_rule env [0, 1, 2, 4, 24] Tryz.func79 rfl rfl rfl rfl ?_
      conv => whnf
      refine splT (by simp [h1]) ?_
      conv => whnf
      refine splF (by simp [h2]) ?_
      conv => whnf
      first | refine callF v1 ⟨.refl _, .refl _, trivial⟩ (by trivial) rfl ?_ | ((repeat (refine ⟨by kernel_rfl, ?_⟩; (conv => whnf))); refine callF v1 ⟨.refl _, .refl _, trivial⟩ (by trivial) rfl ?_)
      conv => whnf
      refine ⟨(by (try simp only [true_and, and_true, Nat.sub_zero, Nat.zero_add, Int.toNat_natCast]) <;> omega), ?_⟩
      exact .int_of2 (by simp [h2])
  by_cases h3 : r.s = 1
  · cases V
    · refine acall_rule env [0, 1, 2, 4, 24] Tryz.func79 rfl rfl rfl rfl ?_
      conv => whnf
      refine splT (by simp [h1]) ?_
      conv => whnf
      refine splT (by simp [h2]) ?_
      conv => whnf
      refine splF (by simp [h3]) ?_
      conv => whnf
      first | refine callF v1 ⟨.refl _, .refl _, trivial⟩ (by trivial) rfl ?_ | ((repeat (refine ⟨by kernel_rfl, ?_⟩; (conv => whnf))); refine callF v1 ⟨.refl _, .refl _, trivial⟩ (by trivial) rfl ?_)
      conv => whnf
      refine ⟨(by (try simp only [true_and, and_true, Nat.sub_zero, Nat.zero_add, Int.toNat_natCast]) <;> omega), ?_⟩
      exact .int_of2 (by simp [h3])
    · refine acall_rule env [0, 1, 2, 4, 24] Tryz.func79 rfl rfl rfl rfl ?_
      conv => whnf
      refine splT (by simp [h1]) ?_
      conv => whnf
      refine splT (by simp [h2]) ?_
      conv => whnf
      refine splF (by simp [h3]) ?_
      conv => whnf
      first | refine callF v1 ⟨.refl _, .refl _, trivial⟩ (by trivial) rfl ?_ | ((repeat (refine ⟨by kernel_rfl, ?_⟩; (conv => whnf))); refine callF v1 ⟨.refl _, .refl _, trivial⟩ (by trivial) rfl ?_)
      conv => whnf
      refine ⟨(by (try simp only [true_and, and_true, Nat.sub_zero, Nat.zero_add, Int.toNat_natCast]) <;> omega), ?_⟩
      exact .int_of2 (by simp [h3])
  · refine acall_rule env [0, 1, 2, 4, 24] Tryz.func79 rfl rfl rfl rfl ?_
    conv => whnf
    refine splT (by simp [h1]) ?_
    conv => whnf
    refine splT (by simp [h2]) ?_
    conv => whnf
    refine splT (by simp [h3]) ?_
    conv => whnf
    refine ⟨(by (try simp only [true_and, and_true, Nat.sub_zero, Nat.zero_add, Int.toNat_natCast]) <;> omega), ?_⟩
    exact .int_of2 (by simp [h1, h2, h3])
theorem ref11Valid_ok {p : Pr} (hp : p.H) : ACall Tryz.prog 45 [p.a] (.f (.int .i64 p.err)) := by
  have hps := hp.s
  have ho := fun j (h : j < p.nc) => refCrossed_ok (hp.ok.c j h) (Nat.le_trans (Pr.csz h) (by omega))
  have hv := fun i (h : i < p.nr) => refRowError_ok p.nc (hp.ok.r i h) (Nat.le_trans (Pr.rsz h) (by omega)) (by have := hp.k i h; omega) (by have := hp.c; omega)
  have hpc := hp.c
  have hpr := hp.r
  obtain ⟨E, hE⟩ : ∃ E, p.err = E := ⟨_, rfl⟩
  rw [hE]
  unfold Pr.err at hE
  by_cases g1 : 16384 < p.nc
  · rw [if_pos (.inl g1)] at hE
    subst hE
    refine acall_rule env [0, 1, 2, 3, 4, 5, 15, 20, 28, 33, 46] Tryz.func45 rfl rfl rfl rfl ?_
    conv => whnf
    refine splT (decide_eq_true (by omega)) ?_
    conv => whnf
    (repeat (refine ⟨by kernel_rfl, ?_⟩; (conv => whnf)))
    refine ⟨(by (try simp only [true_and, and_true, Nat.sub_zero, Nat.zero_add, Int.toNat_natCast]) <;> omega), ?_⟩
    exact .refl _
  by_cases g2 : 16384 < p.nr
  · rw [if_pos (.inr g2)] at hE
    subst hE
    refine acall_rule env [0, 1, 2, 3, 4, 5, 15, 20, 28, 33, 46] Tryz.func45 rfl rfl rfl rfl ?_
    conv => whnf
    refine splF (decide_eq_false (by omega)) ?_
    conv => whnf
    refine splT (decide_eq_true (by omega)) ?_
    conv => whnf
    (repeat (refine ⟨by kernel_rfl, ?_⟩; (conv => whnf)))
    refine ⟨(by (try simp only [true_and, and_true, Nat.sub_zero, Nat.zero_add, Int.toNat_natCast]) <;> omega), ?_⟩
    exact .refl _
  rw [if_neg (by omega)] at hE
  refine acall_rule env [0, 1, 2, 3, 4, 5, 15, 20, 28, 33, 46] Tryz.func45 rfl rfl rfl rfl ?_
  conv => whnf
  refine splF (decide_eq_false (by omega)) ?_
  conv => whnf
  refine splF (decide_eq_false (by omega)) ?_
  conv => whnf
  refine loop_mod [1, 2, 3] [1] [1, 2] [1]
    (fun μ fr hp => ∃ i : Nat, i ≤ p.nc ∧ allB (fun j => !(p.c j).cross) i = true ∧ fr = [bpk 1 2, (2, .f (.int .i64 0)), (3, .f (.int .i64 i))] ∧
      hp = [bxk 1 [.f (.sl 11 (fun j => (p.c j).c) p.nc none), .f (.sl 5 (fun i => (p.r i).c) p.nr none)]] ∧ μ = p.nc - i)
    (fun x fr hp => (x = .exit 0 ∧ allB (fun j => !(p.c j).cross) p.nc = true ∧ fr = [bpk 1 2, (2, .f (.int .i64 0))] ∧ hp = [bxk 1 [.f (.sl 11 (fun j => (p.c j).c) p.nc none), .f (.sl 5 (fun i => (p.r i).c) p.nr none)]]) ∨
      (x = .ret ∧ E = 3 ∧ fr = [bpk 1 2, (2, .f (.int .i64 3))] ∧ hp = [bxk 1 [.f (.sl 11 (fun j => (p.c j).c) p.nc none), .f (.sl 5 (fun i => (p.r i).c) p.nr none)]]))
    ⟨_, _, _, _, rfl, .refl _, 0, Nat.zero_le _, rfl, rfl, rfl, rfl⟩ ?_ ?_
  · rintro _ _ _ (⟨rfl, hall, rfl, rfl⟩ | ⟨rfl, rfl, rfl, rfl⟩)
    · rw [hall, if_neg (by decide)] at hE
      clear ho
      conv => whnf
      refine loop_mod [1, 2, 4] [1] [2] []
        (fun μ fr hp => ∃ i : Nat, i ≤ p.nr ∧ allB (fun i => (p.r i).ok p.nc) i = true ∧ fr = [bpk 1 2, (2, .f (.int .i64 0)), (4, .f (.int .i64 i))] ∧
          hp = [bxk 1 [.f (.sl 11 (fun j => (p.c j).c) p.nc none), .f (.sl 5 (fun i => (p.r i).c) p.nr none)]] ∧ μ = p.nr - i)
        (fun x fr hp => (x = .exit 2 ∧ E = 0 ∧ fr = [(2, .f (.int .i64 0))] ∧ hp = []) ∨ (x = .ret ∧ E = 1 ∧ fr = [(2, .f (.int .i64 1))] ∧ hp = []))
        ⟨_, _, _, _, rfl, .refl _, 0, Nat.zero_le _, rfl, rfl, rfl, rfl⟩ ?_ ?_
      · rintro _ _ _ (⟨rfl, rfl, rfl, rfl⟩ | ⟨rfl, rfl, rfl, rfl⟩)
        · conv => whnf
          (repeat (refine ⟨by kernel_rfl, ?_⟩; (conv => whnf)))
          refine ⟨(by (try simp only [true_and, and_true, Nat.sub_zero, Nat.zero_add, Int.toNat_natCast]) <;> omega), ?_⟩
          exact .refl _
        · conv => whnf
          (repeat (refine ⟨by kernel_rfl, ?_⟩; (conv => whnf)))
          refine ⟨(by (try simp only [true_and, and_true, Nat.sub_zero, Nat.zero_add, Int.toNat_natCast]) <;> omega), ?_⟩
          exact .refl _
      rintro μ _ _ ⟨i, hi, hall2, rfl, rfl, rfl⟩
      by_cases hik : i < p.nr
      · have hf : (p.r i).ok p.nc = false → E = 1 := fun h => by rw [← hE, if_pos (allB_false hik h)]
        have hb : allB (fun i => (p.r i).ok p.nc) (i + 1) = (p.r i).ok p.nc := by rw [allB, hall2, Bool.true_and]
        have v1 := hv i hik
        unfold rowErr at v1
        cases hV : (p.r i).ok p.nc with
        | true =>
          rw [hV] at hb v1
          rw [if_pos rfl] at v1
          conv => whnf
          refine splT (by simp only [decide_eq_true_eq, decide_eq_false_iff_not, Bool.not_eq_true', Bool.not_eq_false', gt_iff_lt, ge_iff_le] <;> omega) ?_
          conv => whnf
          refine ⟨(by (try simp only [true_and, and_true, Nat.sub_zero, Nat.zero_add, Int.toNat_natCast]) <;> omega), ?_⟩
          conv => whnf
          first | refine callF v1 ⟨.refl _, .refl _, trivial⟩ (by trivial) rfl ?_ | ((repeat (refine ⟨by kernel_rfl, ?_⟩; (conv => whnf))); refine callF v1 ⟨.refl _, .refl _, trivial⟩ (by trivial) rfl ?_)
          conv => whnf
          refine ⟨by kernel_rfl, ?_⟩
          conv => whnf
          refine fit64 (by omega) ?_
          conv => whnf
          refine ⟨_, ?_, _, _, _, rfl, .refl _, i + 1, hik, hb, rfl, rfl, rfl⟩
          omega
        | false =>
          rw [hV] at hf v1
          rw [if_neg (by simp)] at v1
          conv => whnf
          refine splT (by simp only [decide_eq_true_eq, decide_eq_false_iff_not, Bool.not_eq_true', Bool.not_eq_false', gt_iff_lt, ge_iff_le] <;> omega) ?_
          conv => whnf
          refine ⟨(by (try simp only [true_and, and_true, Nat.sub_zero, Nat.zero_add, Int.toNat_natCast]) <;> omega), ?_⟩
          conv => whnf
          first | refine callF v1 ⟨.refl _, .refl _, trivial⟩ (by trivial) rfl ?_ | ((repeat (refine ⟨by kernel_rfl, ?_⟩; (conv => whnf))); refine callF v1 ⟨.refl _, .refl _, trivial⟩ (by trivial) rfl ?_)
          conv => whnf
          refine ⟨by kernel_rfl, ?_⟩
          conv => whnf
          exact ⟨_, _, _, rfl, .refl _, .inr ⟨rfl, hf rfl, rfl, rfl⟩⟩
      · obtain rfl : i = p.nr := by omega
        rw [hall2, if_neg (by decide)] at hE
        conv => whnf
        refine splF (by simp only [decide_eq_true_eq, decide_eq_false_iff_not, Bool.not_eq_true', Bool.not_eq_false', gt_iff_lt, ge_iff_le] <;> omega) ?_
        conv => whnf
        exact ⟨_, _, _, rfl, .refl _, .inl ⟨rfl, hE.symm, rfl, rfl⟩⟩
    · conv => whnf
      (repeat (refine ⟨by kernel_rfl, ?_⟩; (conv => whnf)))
      refine ⟨(by (try simp only [true_and, and_true, Nat.sub_zero, Nat.zero_add, Int.toNat_natCast]) <;> omega), ?_⟩
      exact .refl _
  rintro μ _ _ ⟨i, hi, hall, rfl, rfl, rfl⟩
  by_cases hik : i < p.nc
  · have o1 := ho i hik
    have hf : (!(p.c i).cross) = false → E = 3 := fun h => by rw [← hE, if_pos (allB_false hik h)]
    have hb : allB (fun j => !(p.c j).cross) (i + 1) = !(p.c i).cross := by rw [allB, hall, Bool.true_and]
    obtain ⟨b, hbb⟩ : ∃ b, (p.c i).cross = b := ⟨_, rfl⟩
    rw [hbb] at o1 hf hb
    cases b with
    | true =>
      conv => whnf
      refine splT (by simp only [decide_eq_true_eq, decide_eq_false_iff_not, Bool.not_eq_true', Bool.not_eq_false', gt_iff_lt, ge_iff_le] <;> omega) ?_
      conv => whnf
      refine ⟨(by (try simp only [true_and, and_true, Nat.sub_zero, Nat.zero_add, Int.toNat_natCast]) <;> omega), ?_⟩
      conv => whnf
      first | refine callF o1 ⟨.refl _, trivial⟩ (by trivial) rfl ?_ | ((repeat (refine ⟨by kernel_rfl, ?_⟩; (conv => whnf))); refine callF o1 ⟨.refl _, trivial⟩ (by trivial) rfl ?_)
      conv => whnf
      exact ⟨_, _, _, rfl, .refl _, .inr ⟨rfl, hf rfl, rfl, rfl⟩⟩
    | false =>
      conv => whnf
      refine splT (by simp only [decide_eq_true_eq, decide_eq_false_iff_not, Bool.not_eq_true', Bool.not_eq_false', gt_iff_lt, ge_iff_le] <;> omega) ?_
      conv => whnf
      refine ⟨(by (try simp only [true_and, and_true, Nat.sub_zero, Nat.zero_add, Int.toNat_natCast]) <;> omega), ?_⟩
      conv => whnf
      first | refine callF o1 ⟨.refl _, trivial⟩ (by trivial) rfl ?_ | ((repeat (refine ⟨by kernel_rfl, ?_⟩; (conv => whnf))); refine callF o1 ⟨.refl _, trivial⟩ (by trivial) rfl ?_)
      conv => whnf
      refine fit64 (by omega) ?_
      conv => whnf
      refine ⟨_, ?_, _, _, _, rfl, .refl _, i + 1, hik, hb, rfl, rfl, rfl⟩
      omega
  · obtain rfl : i = p.nc := by omega
    conv => whnf
    refine splF (by simp only [decide_eq_true_eq, decide_eq_false_iff_not, Bool.not_eq_true', Bool.not_eq_false', gt_iff_lt, ge_iff_le] <;> omega) ?_
    conv => whnf
    exact ⟨_, _, _, rfl, .refl _, .inl ⟨rfl, hall, rfl, rfl⟩⟩
end Go.Abs

/- The reference's linear programs: points. -/
set_option autoImplicit false
set_option maxHeartbeats 4000000
set_option maxRecDepth 10000
set_option linter.unusedVariables false
set_option linter.unusedSimpArgs false
namespace Go.Abs
open Go Go.Proofs

def Pr.bx (p : Pr) : List AV := [.f (.sl 11 (fun j => (p.c j).c) p.nc none), .f (.sl 5 (fun i => (p.r i).c) p.nr none)]
theorem refObjective_ok {p : Pr} (hp : p.H) {x : Nat → RR} {n : Nat} (hx : XH x n) (he : p.errS n p.nc = 0) : ACall Tryz.prog 69 [p.a, rats x n] (rat (p.obj x)) := by
  have z0 := sFromInt_ok 0 (by decide)
  have z1 := sZero_ok
  obtain ⟨e1, e2⟩ := Pr.errS_zero.1 he
  obtain ⟨b1, b2, _, _⟩ := Pr.err_facts e1
  have hterm : ∀ j, j < p.nc → rsz ((p.c j).w.v * (x j).v) ≤ 8388608 := by
    intro j hj
    have h1 := prod_sz (hp.ok.c j hj).w (hx.ok j (by omega))
    have h2 := Pr.csz hj
    have h3 := hp.s
    have h4 := hx.s j (by omega)
    unfold Co.sz at h2
    omega
  have hpart : ∀ i, i ≤ p.nc → rsz (qsum (fun j => (p.c j).w.v * (x j).v) i) ≤ 137455730690 := by
    intro i hi
    have := qpart_sz hterm hi
    have h2 : p.nc * (8388608 + 1) ≤ 16384 * (8388608 + 1) := Nat.mul_le_mul_right _ b1
    omega
  unfold Pr.obj
  refine acall_rule env [0, 1, 2, 4, 5, 6, 12, 22] Tryz.func69 rfl rfl rfl rfl ?_
  conv => whnf
  first | refine callF z1 trivial (by trivial) rfl ?_ | ((repeat (refine ⟨by kernel_rfl, ?_⟩; (conv => whnf))); refine callF z1 trivial (by trivial) rfl ?_)
  conv => whnf
  refine loop_mod [1, 2, 4, 5, 6] [2, 4, 5] [4, 5] [4, 5]
    (fun μ fr hp_ => ∃ i : Nat, i ≤ p.nc ∧ fr = [(1, rats x n), bpk 2 2, bp3 4, bp3 5, (6, .f (.int .i64 i))] ∧
      hp_ = [bxk 2 [.f (.sl 11 (fun j => (p.c j).c) p.nc none), .f (.sl 5 (fun i => (p.r i).c) p.nr none)], bx3 4 zR, bx3 5 (ratL (qsum (fun j => (p.c j).w.v * (x j).v) i))] ∧ μ = p.nc - i)
    (fun e fr hp_ => e = .exit 0 ∧ fr = [bp3 4, bp3 5] ∧ hp_ = [bx3 4 zR, bx3 5 (ratL (qsum (fun j => (p.c j).w.v * (x j).v) p.nc))])
    ⟨_, _, _, _, rfl, .refl _, 0, Nat.zero_le _, rfl, rfl, rfl⟩ ?_ ?_
  · rintro _ _ _ ⟨rfl, rfl, rfl⟩
    conv => whnf
    (repeat (refine ⟨by kernel_rfl, ?_⟩; (conv => whnf)))
    refine ⟨(by (try simp only [true_and, and_true, Nat.sub_zero, Nat.zero_add, Int.toNat_natCast]) <;> omega), ?_⟩
    exact .refl _
  rintro μ _ _ ⟨i, hi, rfl, rfl, rfl⟩
  by_cases hik : i < p.nc
  · have hin : i < n := by omega
    have hw := (hp.ok.c i hik).w
    have hws : (p.c i).w.sz ≤ 4194304 := by have := Pr.csz hik; have := hp.s; unfold Co.sz at *; omega
    have s1 := sSign_ok hw.is (by omega)
    have m1 := sMul_ok hw.is (hx.ok i hin).is (by have := hx.s i hin; omega)
    have zq := hpart i hi
    have zt := hterm i hik
    have a1 := sAdd_ok (isR_rat _ zq) (isR_rat _ zt) (by omega)
    have hS : qsum (fun j => (p.c j).w.v * (x j).v) (i + 1) = qsum (fun j => (p.c j).w.v * (x j).v) i + (p.c i).w.v * (x i).v := rfl
    have hx0 : rcmp (p.c i).w.v 0 = 0 ↔ (p.c i).w.v = 0 := rcmp_zero
    by_cases hz : (p.c i).w.v = 0
    · rw [hx0.2 hz] at s1
      rw [hz, Rat.zero_mul, Rat.add_zero] at hS
      conv => whnf
      refine splT (by simp only [decide_eq_true_eq, decide_eq_false_iff_not, Bool.not_eq_true', Bool.not_eq_false', gt_iff_lt, ge_iff_le] <;> omega) ?_
      conv => whnf
      refine ⟨(by (try simp only [true_and, and_true, Nat.sub_zero, Nat.zero_add, Int.toNat_natCast]) <;> omega), ?_⟩
      conv => whnf
      first | refine callF s1 ⟨.refl _, trivial⟩ (by trivial) rfl ?_ | ((repeat (refine ⟨by kernel_rfl, ?_⟩; (conv => whnf))); refine callF s1 ⟨.refl _, trivial⟩ (by trivial) rfl ?_)
      conv => whnf
      refine fit64 (by omega) ?_
      conv => whnf
      exact ⟨_, by omega, _, _, _, rfl, .refl _, i + 1, hik, rfl, by rw [hS]; rfl, rfl⟩
    · have hne : ¬ rcmp (p.c i).w.v 0 = 0 := fun h => hz (hx0.1 h)
      rw [← hS] at a1
      generalize rcmp (p.c i).w.v 0 = C at *
      conv => whnf
      refine splT (by simp only [decide_eq_true_eq, decide_eq_false_iff_not, Bool.not_eq_true', Bool.not_eq_false', gt_iff_lt, ge_iff_le] <;> omega) ?_
      conv => whnf
      refine ⟨(by (try simp only [true_and, and_true, Nat.sub_zero, Nat.zero_add, Int.toNat_natCast]) <;> omega), ?_⟩
      conv => whnf
      first | refine callF s1 ⟨.refl _, trivial⟩ (by trivial) rfl ?_ | ((repeat (refine ⟨by kernel_rfl, ?_⟩; (conv => whnf))); refine callF s1 ⟨.refl _, trivial⟩ (by trivial) rfl ?_)
      conv => whnf
      refine splT (by simp [hne]) ?_
      conv => whnf
      refine ⟨(by (try simp only [true_and, and_true, Nat.sub_zero, Nat.zero_add, Int.toNat_natCast]) <;> omega), ?_⟩
      conv => whnf
      refine ⟨(by (try simp only [true_and, and_true, Nat.sub_zero, Nat.zero_add, Int.toNat_natCast]) <;> omega), ?_⟩
      conv => whnf
      first | refine callF m1 ⟨.refl _, .refl _, trivial⟩ (by trivial) rfl ?_ | ((repeat (refine ⟨by kernel_rfl, ?_⟩; (conv => whnf))); refine callF m1 ⟨.refl _, .refl _, trivial⟩ (by trivial) rfl ?_)
      conv => whnf
      first | refine callF a1 ⟨.refl _, .refl _, trivial⟩ (by trivial) rfl ?_ | ((repeat (refine ⟨by kernel_rfl, ?_⟩; (conv => whnf))); refine callF a1 ⟨.refl _, .refl _, trivial⟩ (by trivial) rfl ?_)
      conv => whnf
      refine ⟨by kernel_rfl, ?_⟩
      conv => whnf
      refine fit64 (by omega) ?_
      conv => whnf
      exact ⟨_, by omega, _, _, _, rfl, .refl _, i + 1, hik, rfl, rfl, rfl⟩
  · obtain rfl : i = p.nc := by omega
    conv => whnf
    refine splF (by simp only [decide_eq_true_eq, decide_eq_false_iff_not, Bool.not_eq_true', Bool.not_eq_false', gt_iff_lt, ge_iff_le] <;> omega) ?_
    conv => whnf
    exact ⟨_, _, _, rfl, .refl _, rfl, rfl, rfl⟩
theorem refActivity_ok {r : Ro} {x : Nat → RR} {n : Nat} (hr : RH r n) (hx : XH x n) : ACall Tryz.prog 67 [r.a, rats x n] (rat (r.act x)) := by
  have z1 := sZero_ok
  have hterm := act_term hr hx
  have hpart := act_part hr hx
  have hrk := hr.k
  unfold Ro.act
  refine acall_rule env [0, 1, 2, 4, 5, 6, 12] Tryz.func67 rfl rfl rfl rfl ?_
  conv => whnf
  first | refine callF z1 trivial (by trivial) rfl ?_ | ((repeat (refine ⟨by kernel_rfl, ?_⟩; (conv => whnf))); refine callF z1 trivial (by trivial) rfl ?_)
  conv => whnf
  refine loop_mod [1, 2, 4, 5, 6] [2, 4, 5] [4, 5] [4, 5]
    (fun μ fr hp_ => ∃ i : Nat, i ≤ r.k ∧ fr = [(1, rats x n), bpk 2 5, bp3 4, bp3 5, (6, .f (.int .i64 i))] ∧
      hp_ = [bxk 2 (fL r.c), bx3 4 zR, bx3 5 (ratL (qsum (fun j => (r.e j).v.v * (x (r.e j).i.toNat).v) i))] ∧ μ = r.k - i)
    (fun e fr hp_ => e = .exit 0 ∧ fr = [bp3 4, bp3 5] ∧ hp_ = [bx3 4 zR, bx3 5 (ratL (qsum (fun j => (r.e j).v.v * (x (r.e j).i.toNat).v) r.k))])
    ⟨_, _, _, _, rfl, .refl _, 0, Nat.zero_le _, rfl, rfl, rfl⟩ ?_ ?_
  · rintro _ _ _ ⟨rfl, rfl, rfl⟩
    conv => whnf
    (repeat (refine ⟨by kernel_rfl, ?_⟩; (conv => whnf)))
    refine ⟨(by (try simp only [true_and, and_true, Nat.sub_zero, Nat.zero_add, Int.toNat_natCast]) <;> omega), ?_⟩
    exact .refl _
  rintro μ _ _ ⟨i, hi, rfl, rfl, rfl⟩
  by_cases hik : i < r.k
  · have hin := hr.i i hik
    have hlt : (r.e i).i.toNat < n := by omega
    have m1 := sMul_ok (hr.ok.e i hik).v.is (hx.ok _ hlt).is (by have := hr.s i hik; have := hx.s _ hlt; omega)
    have zq := hpart i hi
    have zt := hterm i hik
    have a1 := sAdd_ok (isR_rat _ zq) (isR_rat _ zt) (by omega)
    have hS : qsum (fun j => (r.e j).v.v * (x (r.e j).i.toNat).v) (i + 1) = qsum (fun j => (r.e j).v.v * (x (r.e j).i.toNat).v) i + (r.e i).v.v * (x (r.e i).i.toNat).v := rfl
    rw [← hS] at a1
    conv => whnf
    refine splT (by simp only [decide_eq_true_eq, decide_eq_false_iff_not, Bool.not_eq_true', Bool.not_eq_false', gt_iff_lt, ge_iff_le] <;> omega) ?_
    conv => whnf
    refine ⟨(by (try simp only [true_and, and_true, Nat.sub_zero, Nat.zero_add, Int.toNat_natCast]) <;> omega), ?_⟩
    conv => whnf
    refine ⟨(by (try simp only [true_and, and_true, Nat.sub_zero, Nat.zero_add, Int.toNat_natCast]) <;> omega), ?_⟩
    conv => whnf
    refine ⟨(by (try simp only [true_and, and_true, Nat.sub_zero, Nat.zero_add, Int.toNat_natCast]) <;> omega), ?_⟩
    conv => whnf
    first | refine callF m1 ⟨.refl _, .refl _, trivial⟩ (by trivial) rfl ?_ | ((repeat (refine ⟨by kernel_rfl, ?_⟩; (conv => whnf))); refine callF m1 ⟨.refl _, .refl _, trivial⟩ (by trivial) rfl ?_)
    conv => whnf
    first | refine callF a1 ⟨.refl _, .refl _, trivial⟩ (by trivial) rfl ?_ | ((repeat (refine ⟨by kernel_rfl, ?_⟩; (conv => whnf))); refine callF a1 ⟨.refl _, .refl _, trivial⟩ (by trivial) rfl ?_)
    conv => whnf
    refine ⟨by kernel_rfl, ?_⟩
    conv => whnf
    refine fit64 (by omega) ?_
    conv => whnf
    exact ⟨_, by omega, _, _, _, rfl, .refl _, i + 1, hik, rfl, rfl, rfl⟩
  · obtain rfl : i = r.k := by omega
    conv => whnf
    refine splF (by simp only [decide_eq_true_eq, decide_eq_false_iff_not, Bool.not_eq_true', Bool.not_eq_false', gt_iff_lt, ge_iff_le] <;> omega) ?_
    conv => whnf
    exact ⟨_, _, _, rfl, .refl _, rfl, rfl, rfl⟩
theorem refHolds_ok {r : Ro} (hr : r.Ok) (hb : r.b.sz ≤ 4194304) {v : Rat} (hv : rsz v ≤ 274911461380) : ACall Tryz.prog 107 [rat v, .f (.int .i64 r.s), r.b.a] (.f (.bool (decide (r.s = -1 ∨ r.s = 0 ∨ r.s = 1) && holdB r.s v r.b.v))) := by
  have k1 := sCompare_ok (isR_rat v hv) hr.b.is (by omega)
  have h1 : decide (rcmp v r.b.v ≤ 0) = decide (v ≤ r.b.v) := decide_eq_decide.2 rcmp_le
  have h2 : decide (rcmp v r.b.v ≥ 0) = decide (r.b.v ≤ v) := decide_eq_decide.2 (by rw [← rcmp_le, rcmp_neg]; omega)
  have h3 : decide (rcmp v r.b.v = 0) = decide (v = r.b.v) := decide_eq_decide.2 rcmp_zero
  unfold holdB
  generalize rcmp v r.b.v = C at *
  by_cases s1 : r.s = -1
  · rw [if_pos s1, ← h1]
    by_cases c1 : C ≤ 0
    · refine acall_rule env [0, 1, 2, 3, 5, 6, 7] Tryz.func107 rfl rfl rfl rfl ?_
      conv => whnf
      first | refine callF k1 ⟨.refl _, .refl _, trivial⟩ (by trivial) rfl ?_ | ((repeat (refine ⟨by kernel_rfl, ?_⟩; (conv => whnf))); refine callF k1 ⟨.refl _, .refl _, trivial⟩ (by trivial) rfl ?_)
      conv => whnf
      refine splT (decide_eq_true s1) ?_
      conv => whnf
      refine splT (decide_eq_true c1) ?_
      conv => whnf
      refine ⟨(by (try simp only [true_and, and_true, Nat.sub_zero, Nat.zero_add, Int.toNat_natCast]) <;> omega), ?_⟩
      exact .bool_of (by simp [s1, c1])
    · refine acall_rule env [0, 1, 2, 3, 5, 6, 7] Tryz.func107 rfl rfl rfl rfl ?_
      conv => whnf
      first | refine callF k1 ⟨.refl _, .refl _, trivial⟩ (by trivial) rfl ?_ | ((repeat (refine ⟨by kernel_rfl, ?_⟩; (conv => whnf))); refine callF k1 ⟨.refl _, .refl _, trivial⟩ (by trivial) rfl ?_)
      conv => whnf
      refine splT (decide_eq_true s1) ?_
      conv => whnf
      refine splF (decide_eq_false c1) ?_
      conv => whnf
      refine splF (decide_eq_false (show ¬ r.s = 0 by omega)) ?_
      conv => whnf
      refine splF (decide_eq_false (show ¬ r.s = 1 by omega)) ?_
      conv => whnf
      refine ⟨(by (try simp only [true_and, and_true, Nat.sub_zero, Nat.zero_add, Int.toNat_natCast]) <;> omega), ?_⟩
      exact .bool_of (by simp [c1])
  rw [if_neg s1]
  by_cases s0 : r.s = 0
  · rw [if_neg (show ¬ r.s = 1 by omega), ← h3]
    by_cases c1 : C = 0
    · refine acall_rule env [0, 1, 2, 3, 5, 6, 7] Tryz.func107 rfl rfl rfl rfl ?_
      conv => whnf
      first | refine callF k1 ⟨.refl _, .refl _, trivial⟩ (by trivial) rfl ?_ | ((repeat (refine ⟨by kernel_rfl, ?_⟩; (conv => whnf))); refine callF k1 ⟨.refl _, .refl _, trivial⟩ (by trivial) rfl ?_)
      conv => whnf
      refine splF (decide_eq_false s1) ?_
      conv => whnf
      refine splT (decide_eq_true s0) ?_
      conv => whnf
      refine splT (decide_eq_true c1) ?_
      conv => whnf
      refine ⟨(by (try simp only [true_and, and_true, Nat.sub_zero, Nat.zero_add, Int.toNat_natCast]) <;> omega), ?_⟩
      exact .bool_of (by simp [s0, c1])
    · refine acall_rule env [0, 1, 2, 3, 5, 6, 7] Tryz.func107 rfl rfl rfl rfl ?_
      conv => whnf
      first | refine callF k1 ⟨.refl _, .refl _, trivial⟩ (by trivial) rfl ?_ | ((repeat (refine ⟨by kernel_rfl, ?_⟩; (conv => whnf))); refine callF k1 ⟨.refl _, .refl _, trivial⟩ (by trivial) rfl ?_)
      conv => whnf
      refine splF (decide_eq_false s1) ?_
      conv => whnf
      refine splT (decide_eq_true s0) ?_
      conv => whnf
      refine splF (decide_eq_false c1) ?_
      conv => whnf
      refine splF (decide_eq_false (show ¬ r.s = 1 by omega)) ?_
      conv => whnf
      refine ⟨(by (try simp only [true_and, and_true, Nat.sub_zero, Nat.zero_add, Int.toNat_natCast]) <;> omega), ?_⟩
      exact .bool_of (by simp [c1])
  by_cases s2 : r.s = 1
  · rw [if_pos s2, ← h2]
    refine acall_rule env [0, 1, 2, 3, 5, 6, 7] Tryz.func107 rfl rfl rfl rfl ?_
    conv => whnf
    first | refine callF k1 ⟨.refl _, .refl _, trivial⟩ (by trivial) rfl ?_ | ((repeat (refine ⟨by kernel_rfl, ?_⟩; (conv => whnf))); refine callF k1 ⟨.refl _, .refl _, trivial⟩ (by trivial) rfl ?_)
    conv => whnf
    refine splF (decide_eq_false s1) ?_
    conv => whnf
    refine splF (decide_eq_false s0) ?_
    conv => whnf
    refine splT (decide_eq_true s2) ?_
    conv => whnf
    refine ⟨(by (try simp only [true_and, and_true, Nat.sub_zero, Nat.zero_add, Int.toNat_natCast]) <;> omega), ?_⟩
    exact .bool_of (by simp [s2])
  · refine acall_rule env [0, 1, 2, 3, 5, 6, 7] Tryz.func107 rfl rfl rfl rfl ?_
    conv => whnf
    first | refine callF k1 ⟨.refl _, .refl _, trivial⟩ (by trivial) rfl ?_ | ((repeat (refine ⟨by kernel_rfl, ?_⟩; (conv => whnf))); refine callF k1 ⟨.refl _, .refl _, trivial⟩ (by trivial) rfl ?_)
    conv => whnf
    refine splF (decide_eq_false s1) ?_
    conv => whnf
    refine splF (decide_eq_false s0) ?_
    conv => whnf
    refine splF (decide_eq_false s2) ?_
    conv => whnf
    refine ⟨(by (try simp only [true_and, and_true, Nat.sub_zero, Nat.zero_add, Int.toNat_natCast]) <;> omega), ?_⟩
    exact .bool_of (by simp [s1, s0, s2])
theorem row_sen3 {r : Ro} {n : Nat} (h : r.ok n = true) : r.s = -1 ∨ r.s = 0 ∨ r.s = 1 := by
  unfold Ro.ok at h
  simp only [Bool.and_eq_true, Bool.or_eq_true, decide_eq_true_eq] at h
  omega
def rvioRes (p : Pr) (x : Nat → RR) : AV := .tup [nums (nth (p.cv x) p.nc) (cnt (p.cv x) p.nc), nums (nth (p.rv x) p.nr) (cnt (p.rv x) p.nr)]
theorem refViolated_ok {p : Pr} (hp : p.H) {x : Nat → RR} {n : Nat} (hx : XH x n) (he : p.errS n p.nc = 0) : ACall Tryz.prog 68 [p.a, rats x n] (rvioRes p x) := by
  unfold rvioRes
  obtain ⟨e1, e2⟩ := Pr.errS_zero.1 he
  obtain ⟨b1, b2, _, b4⟩ := Pr.err_facts e1
  subst e2
  have ha := fun i (hi : i < p.nr) => refActivity_ok (hp.row e1 hi) hx
  have hh := fun i (hi : i < p.nr) => refHolds_ok (hp.ok.r i hi) (by have := Pr.rsz hi; have := hp.s; unfold Ro.sz at *; omega) (Nat.le_trans (act_sz (hp.row e1 hi) hx) (by omega))
  have hcl := cnt_le (p.cv x)
  have hrl := cnt_le (p.rv x)
  refine acall_rule env [0, 1, 2, 4, 5, 6, 7, 8, 13, 46, 55, 78] Tryz.func68 rfl rfl rfl rfl ?_
  conv => whnf
  refine .weak (nil_weak 4 50 1 (by decide) rfl rfl) ?_
  refine loop_mod [1, 2, 4, 5, 6] [2, 50] [1, 2, 4, 5] [2, 50]
    (fun μ fr hp_ => ∃ i : Nat, i ≤ p.nc ∧ fr = [(1, rats x p.nc), bpk 2 2, (4, .lsl 50 1 1 0 (cnt (p.cv x) i) none), (5, nilI), (6, .f (.int .i64 i))] ∧
      hp_ = [bxk 2 [.f (.sl 11 (fun j => (p.c j).c) p.nc none), .f (.sl 5 (fun i => (p.r i).c) p.nr none)], (50, 1, .fa 1 (cnt (p.cv x) i) (fun j => [.int .i64 (nth (p.cv x) i j)]))] ∧ μ = p.nc - i)
    (fun e fr hp_ => e = .exit 0 ∧ fr = [(1, rats x p.nc), bpk 2 2, (4, .lsl 50 1 1 0 (cnt (p.cv x) p.nc) none), (5, nilI)] ∧
      hp_ = [bxk 2 [.f (.sl 11 (fun j => (p.c j).c) p.nc none), .f (.sl 5 (fun i => (p.r i).c) p.nr none)], (50, 1, .fa 1 (cnt (p.cv x) p.nc) (fun j => [.int .i64 (nth (p.cv x) p.nc j)]))])
    ⟨_, _, _, _, rfl, ?_, 0, Nat.zero_le _, rfl, rfl, rfl⟩ ?_ ?_
  · exact ⟨⟨rfl, rfl⟩, .refl _, ⟨rfl, rfl⟩, .fa fun j hj => absurd hj (Nat.not_lt_zero _), trivial⟩
  · rintro _ _ _ ⟨rfl, rfl, rfl⟩
    conv => whnf
    refine .weak (nil_weak 5 82 1 (by decide) rfl rfl) ?_
    refine loop_mod [1, 2, 4, 5, 8] [2, 50, 82] [4, 5] [50, 82]
      (fun μ fr hp_ => ∃ i : Nat, i ≤ p.nr ∧ fr = [(1, rats x p.nc), bpk 2 2, (4, .lsl 50 1 1 0 (cnt (p.cv x) p.nc) none), (5, .lsl 82 1 1 0 (cnt (p.rv x) i) none), (8, .f (.int .i64 i))] ∧
        hp_ = [bxk 2 [.f (.sl 11 (fun j => (p.c j).c) p.nc none), .f (.sl 5 (fun i => (p.r i).c) p.nr none)], (50, 1, .fa 1 (cnt (p.cv x) p.nc) (fun j => [.int .i64 (nth (p.cv x) p.nc j)])), (82, 1, .fa 1 (cnt (p.rv x) i) (fun j => [.int .i64 (nth (p.rv x) i j)]))] ∧ μ = p.nr - i)
      (fun e fr hp_ => e = .exit 2 ∧ fr = [(4, .lsl 50 1 1 0 (cnt (p.cv x) p.nc) none), (5, .lsl 82 1 1 0 (cnt (p.rv x) p.nr) none)] ∧
        hp_ = [(50, 1, .fa 1 (cnt (p.cv x) p.nc) (fun j => [.int .i64 (nth (p.cv x) p.nc j)])), (82, 1, .fa 1 (cnt (p.rv x) p.nr) (fun j => [.int .i64 (nth (p.rv x) p.nr j)]))])
      ⟨_, _, _, _, rfl, ?_, 0, Nat.zero_le _, rfl, rfl, rfl⟩ ?_ ?_
    · exact ⟨⟨rfl, rfl⟩, .refl _, ⟨rfl, rfl⟩, .refl _, ⟨rfl, rfl⟩, .fa fun j hj => absurd hj (Nat.not_lt_zero _), trivial⟩
    · rintro _ _ _ ⟨rfl, rfl, rfl⟩
      conv => whnf
      refine ⟨(by (try simp only [true_and, and_true, Nat.sub_zero, Nat.zero_add, Int.toNat_natCast]) <;> omega), ?_⟩
      refine .tup ⟨.f (.sl (fun j hj => ?_) (.inl rfl)), .f (.sl (fun j hj => ?_) (.inl rfl)), trivial⟩
      · simp only [Nat.zero_add]; exact .one (.refl _)
      · simp only [Nat.zero_add]; exact .one (.refl _)
    rintro μ _ _ ⟨i, hi, rfl, rfl, rfl⟩
    by_cases hik : i < p.nr
    · have a1 := ha i hik
      have h1 := hh i hik
      have hl := hrl i
      have hrv : p.rv x i = !holdB (p.r i).s ((p.r i).act x) (p.r i).b.v := rfl
      rw [decide_eq_true (row_sen3 (b4 i hik)), Bool.true_and] at h1
      cases hb : holdB (p.r i).s ((p.r i).act x) (p.r i).b.v with
      | true =>
        rw [hb] at hrv h1
        obtain ⟨c1, c2⟩ := cnt_same hrv
        conv => whnf
        refine splT (by simp only [decide_eq_true_eq, decide_eq_false_iff_not, Bool.not_eq_true', Bool.not_eq_false', gt_iff_lt, ge_iff_le] <;> omega) ?_
        conv => whnf
        refine ⟨(by (try simp only [true_and, and_true, Nat.sub_zero, Nat.zero_add, Int.toNat_natCast]) <;> omega), ?_⟩
        conv => whnf
        first | refine callF a1 ⟨.refl _, .refl _, trivial⟩ (by trivial) rfl ?_ | ((repeat (refine ⟨by kernel_rfl, ?_⟩; (conv => whnf))); refine callF a1 ⟨.refl _, .refl _, trivial⟩ (by trivial) rfl ?_)
        conv => whnf
        refine ⟨(by (try simp only [true_and, and_true, Nat.sub_zero, Nat.zero_add, Int.toNat_natCast]) <;> omega), ?_⟩
        conv => whnf
        refine ⟨(by (try simp only [true_and, and_true, Nat.sub_zero, Nat.zero_add, Int.toNat_natCast]) <;> omega), ?_⟩
        conv => whnf
        first | refine callF h1 ⟨.refl _, .refl _, .refl _, trivial⟩ (by trivial) rfl ?_ | ((repeat (refine ⟨by kernel_rfl, ?_⟩; (conv => whnf))); refine callF h1 ⟨.refl _, .refl _, .refl _, trivial⟩ (by trivial) rfl ?_)
        conv => whnf
        refine ⟨by kernel_rfl, ?_⟩
        conv => whnf
        refine fit64 (by omega) ?_
        conv => whnf
        refine ⟨_, ?_, _, _, _, rfl, .refl _, i + 1, hik, ?_, ?_, rfl⟩
        · omega
        · rw [c1]; rfl
        · rw [c1, c2]; rfl
      | false =>
        rw [hb] at hrv h1
        have c1 := cnt_step hrv
        conv => whnf
        refine splT (by simp only [decide_eq_true_eq, decide_eq_false_iff_not, Bool.not_eq_true', Bool.not_eq_false', gt_iff_lt, ge_iff_le] <;> omega) ?_
        conv => whnf
        refine ⟨(by (try simp only [true_and, and_true, Nat.sub_zero, Nat.zero_add, Int.toNat_natCast]) <;> omega), ?_⟩
        conv => whnf
        first | refine callF a1 ⟨.refl _, .refl _, trivial⟩ (by trivial) rfl ?_ | ((repeat (refine ⟨by kernel_rfl, ?_⟩; (conv => whnf))); refine callF a1 ⟨.refl _, .refl _, trivial⟩ (by trivial) rfl ?_)
        conv => whnf
        refine ⟨(by (try simp only [true_and, and_true, Nat.sub_zero, Nat.zero_add, Int.toNat_natCast]) <;> omega), ?_⟩
        conv => whnf
        refine ⟨(by (try simp only [true_and, and_true, Nat.sub_zero, Nat.zero_add, Int.toNat_natCast]) <;> omega), ?_⟩
        conv => whnf
        first | refine callF h1 ⟨.refl _, .refl _, .refl _, trivial⟩ (by trivial) rfl ?_ | ((repeat (refine ⟨by kernel_rfl, ?_⟩; (conv => whnf))); refine callF h1 ⟨.refl _, .refl _, .refl _, trivial⟩ (by trivial) rfl ?_)
        conv => whnf
        refine ⟨by kernel_rfl, ?_⟩
        conv => whnf
        refine ⟨⟨(show 1 ≤ 1 / 1 - 0 by decide), by omega, by omega, (show (cnt (p.rv x) i + 1) * 8 ≤ 140737488355328 by omega)⟩, ?_⟩
        conv => whnf
        refine fit64 (by omega) ?_
        conv => whnf
        refine ⟨_, ?_, _, _, [bxk 2 [.f (.sl 11 (fun j => (p.c j).c) p.nc none), .f (.sl 5 (fun i => (p.r i).c) p.nr none)], (50, 1, .fa 1 (cnt (p.cv x) p.nc) (fun j => [.int .i64 (nth (p.cv x) p.nc j)])), (82, 1, .fa 1 (cnt (p.rv x) i + 1) (fun j => [.int .i64 (nth (p.rv x) (i + 1) j)]))], rfl, ⟨⟨rfl, rfl⟩, .refl _, ⟨rfl, rfl⟩, .refl _, ⟨rfl, rfl⟩, .fa fun j hj => more_nth hrv hj rfl, trivial⟩, i + 1, hik, ?_, ?_, rfl⟩
        · omega
        · rw [c1]; rfl
        · rw [c1]
    · obtain rfl : i = p.nr := by omega
      conv => whnf
      refine splF (by simp only [decide_eq_true_eq, decide_eq_false_iff_not, Bool.not_eq_true', Bool.not_eq_false', gt_iff_lt, ge_iff_le] <;> omega) ?_
      conv => whnf
      exact ⟨_, _, _, rfl, .refl _, rfl, rfl, rfl⟩
  rintro μ _ _ ⟨i, hi, rfl, rfl, rfl⟩
  by_cases hik : i < p.nc
  · have hl := hcl i
    have hc := hp.ok.c i hik
    have hsz : (p.c i).sz ≤ 4194304 := Nat.le_trans (Pr.csz hik) hp.s
    unfold Co.sz at hsz
    have k1 := sCompare_ok (hx.ok i hik).is hc.lo.is (by have := hx.s i hik; omega)
    have k2 := sCompare_ok (hx.ok i hik).is hc.up.is (by have := hx.s i hik; omega)
    have hcv : p.cv x i = (((p.c i).hl && decide ((x i).v < (p.c i).lo.v)) || ((p.c i).hu && decide ((p.c i).up.v < (x i).v))) := rfl
    have q1 : decide ((x i).v < (p.c i).lo.v) = decide (rcmp (x i).v (p.c i).lo.v < 0) := decide_eq_decide.2 (by
      constructor
      · intro h; rw [rcmp_lt h]; decide
      · intro h; exact Rat.not_le.1 fun h' => by have := rcmp_le.2 h'; rw [rcmp_neg] at this; omega)
    have q2 : decide ((p.c i).up.v < (x i).v) = decide (rcmp (x i).v (p.c i).up.v > 0) := decide_eq_decide.2 rcmp_pos.symm
    rw [q1, q2] at hcv
    generalize rcmp (x i).v (p.c i).lo.v = C1 at *
    generalize rcmp (x i).v (p.c i).up.v = C2 at *
    clear q1 q2 ha hh
    by_cases a1 : (p.c i).hl = true
    · by_cases a2 : C1 < 0
      · have hv : p.cv x i = true := by rw [hcv, a1, decide_eq_true a2]; rfl
        conv => whnf
        refine splT (by simp only [decide_eq_true_eq, decide_eq_false_iff_not, Bool.not_eq_true', Bool.not_eq_false', gt_iff_lt, ge_iff_le] <;> omega) ?_
        conv => whnf
        refine ⟨(by (try simp only [true_and, and_true, Nat.sub_zero, Nat.zero_add, Int.toNat_natCast]) <;> omega), ?_⟩
        conv => whnf
        refine splT a1 ?_
        conv => whnf
        refine ⟨(by (try simp only [true_and, and_true, Nat.sub_zero, Nat.zero_add, Int.toNat_natCast]) <;> omega), ?_⟩
        conv => whnf
        first | refine callF k1 ⟨.refl _, .refl _, trivial⟩ (by trivial) rfl ?_ | ((repeat (refine ⟨by kernel_rfl, ?_⟩; (conv => whnf))); refine callF k1 ⟨.refl _, .refl _, trivial⟩ (by trivial) rfl ?_)
        conv => whnf
        refine splT (decide_eq_true a2) ?_
        conv => whnf
        refine ⟨by kernel_rfl, ?_⟩
        conv => whnf
        have c1 := cnt_step hv
        refine ⟨⟨(show 1 ≤ 1 / 1 - 0 by decide), by omega, by omega, (show (cnt (p.cv x) i + 1) * 8 ≤ 140737488355328 by omega)⟩, ?_⟩
        conv => whnf
        refine fit64 (by omega) ?_
        conv => whnf
        refine ⟨_, ?_, _, _, [bxk 2 [.f (.sl 11 (fun j => (p.c j).c) p.nc none), .f (.sl 5 (fun i => (p.r i).c) p.nr none)], (50, 1, .fa 1 (cnt (p.cv x) i + 1) (fun j => [.int .i64 (nth (p.cv x) (i + 1) j)]))], rfl, ⟨⟨rfl, rfl⟩, .refl _, ⟨rfl, rfl⟩, .fa fun j hj => more_nth hv hj rfl, trivial⟩, i + 1, hik, ?_, ?_, rfl⟩
        · omega
        · rw [c1]; rfl
        · rw [c1]
      · by_cases a3 : (p.c i).hu = true
        · by_cases a4 : C2 > 0
          · have hv : p.cv x i = true := by rw [hcv, a1, a3, decide_eq_true a4]; simp
            conv => whnf
            refine splT (by simp only [decide_eq_true_eq, decide_eq_false_iff_not, Bool.not_eq_true', Bool.not_eq_false', gt_iff_lt, ge_iff_le] <;> omega) ?_
            conv => whnf
            refine ⟨(by (try simp only [true_and, and_true, Nat.sub_zero, Nat.zero_add, Int.toNat_natCast]) <;> omega), ?_⟩
            conv => whnf
            refine splT a1 ?_
            conv => whnf
            refine ⟨(by (try simp only [true_and, and_true, Nat.sub_zero, Nat.zero_add, Int.toNat_natCast]) <;> omega), ?_⟩
            conv => whnf
            first | refine callF k1 ⟨.refl _, .refl _, trivial⟩ (by trivial) rfl ?_ | ((repeat (refine ⟨by kernel_rfl, ?_⟩; (conv => whnf))); refine callF k1 ⟨.refl _, .refl _, trivial⟩ (by trivial) rfl ?_)
            conv => whnf
            refine splF (decide_eq_false a2) ?_
            conv => whnf
            refine splT a3 ?_
            conv => whnf
            refine ⟨(by (try simp only [true_and, and_true, Nat.sub_zero, Nat.zero_add, Int.toNat_natCast]) <;> omega), ?_⟩
            conv => whnf
            first | refine callF k2 ⟨.refl _, .refl _, trivial⟩ (by trivial) rfl ?_ | ((repeat (refine ⟨by kernel_rfl, ?_⟩; (conv => whnf))); refine callF k2 ⟨.refl _, .refl _, trivial⟩ (by trivial) rfl ?_)
            conv => whnf
            refine ⟨by kernel_rfl, ?_⟩
            conv => whnf
            refine splT (decide_eq_true a4) ?_
            conv => whnf
            have c1 := cnt_step hv
            refine ⟨⟨(show 1 ≤ 1 / 1 - 0 by decide), by omega, by omega, (show (cnt (p.cv x) i + 1) * 8 ≤ 140737488355328 by omega)⟩, ?_⟩
            conv => whnf
            refine fit64 (by omega) ?_
            conv => whnf
            refine ⟨_, ?_, _, _, [bxk 2 [.f (.sl 11 (fun j => (p.c j).c) p.nc none), .f (.sl 5 (fun i => (p.r i).c) p.nr none)], (50, 1, .fa 1 (cnt (p.cv x) i + 1) (fun j => [.int .i64 (nth (p.cv x) (i + 1) j)]))], rfl, ⟨⟨rfl, rfl⟩, .refl _, ⟨rfl, rfl⟩, .fa fun j hj => more_nth hv hj rfl, trivial⟩, i + 1, hik, ?_, ?_, rfl⟩
            · omega
            · rw [c1]; rfl
            · rw [c1]
          · have hv : p.cv x i = false := by rw [hcv, decide_eq_false a2, decide_eq_false a4]; simp
            conv => whnf
            refine splT (by simp only [decide_eq_true_eq, decide_eq_false_iff_not, Bool.not_eq_true', Bool.not_eq_false', gt_iff_lt, ge_iff_le] <;> omega) ?_
            conv => whnf
            refine ⟨(by (try simp only [true_and, and_true, Nat.sub_zero, Nat.zero_add, Int.toNat_natCast]) <;> omega), ?_⟩
            conv => whnf
            refine splT a1 ?_
            conv => whnf
            refine ⟨(by (try simp only [true_and, and_true, Nat.sub_zero, Nat.zero_add, Int.toNat_natCast]) <;> omega), ?_⟩
            conv => whnf
            first | refine callF k1 ⟨.refl _, .refl _, trivial⟩ (by trivial) rfl ?_ | ((repeat (refine ⟨by kernel_rfl, ?_⟩; (conv => whnf))); refine callF k1 ⟨.refl _, .refl _, trivial⟩ (by trivial) rfl ?_)
            conv => whnf
            refine splF (decide_eq_false a2) ?_
            conv => whnf
            refine splT a3 ?_
            conv => whnf
            refine ⟨(by (try simp only [true_and, and_true, Nat.sub_zero, Nat.zero_add, Int.toNat_natCast]) <;> omega), ?_⟩
            conv => whnf
            first | refine callF k2 ⟨.refl _, .refl _, trivial⟩ (by trivial) rfl ?_ | ((repeat (refine ⟨by kernel_rfl, ?_⟩; (conv => whnf))); refine callF k2 ⟨.refl _, .refl _, trivial⟩ (by trivial) rfl ?_)
            conv => whnf
            refine ⟨by kernel_rfl, ?_⟩
            conv => whnf
            refine splF (decide_eq_false a4) ?_
            conv => whnf
            obtain ⟨c1, c2⟩ := cnt_same hv
            refine fit64 (by omega) ?_
            conv => whnf
            refine ⟨_, ?_, _, _, _, rfl, .refl _, i + 1, hik, ?_, ?_, rfl⟩
            · omega
            · rw [c1]; rfl
            · rw [c1, c2]; rfl
        · have hv : p.cv x i = false := by rw [hcv, decide_eq_false a2]; simp [a3]
          conv => whnf
          refine splT (by simp only [decide_eq_true_eq, decide_eq_false_iff_not, Bool.not_eq_true', Bool.not_eq_false', gt_iff_lt, ge_iff_le] <;> omega) ?_
          conv => whnf
          refine ⟨(by (try simp only [true_and, and_true, Nat.sub_zero, Nat.zero_add, Int.toNat_natCast]) <;> omega), ?_⟩
          conv => whnf
          refine splT a1 ?_
          conv => whnf
          refine ⟨(by (try simp only [true_and, and_true, Nat.sub_zero, Nat.zero_add, Int.toNat_natCast]) <;> omega), ?_⟩
          conv => whnf
          first | refine callF k1 ⟨.refl _, .refl _, trivial⟩ (by trivial) rfl ?_ | ((repeat (refine ⟨by kernel_rfl, ?_⟩; (conv => whnf))); refine callF k1 ⟨.refl _, .refl _, trivial⟩ (by trivial) rfl ?_)
          conv => whnf
          refine splF (decide_eq_false a2) ?_
          conv => whnf
          refine splF (by simpa using a3) ?_
          conv => whnf
          refine ⟨by kernel_rfl, ?_⟩
          conv => whnf
          obtain ⟨c1, c2⟩ := cnt_same hv
          refine fit64 (by omega) ?_
          conv => whnf
          refine ⟨_, ?_, _, _, _, rfl, .refl _, i + 1, hik, ?_, ?_, rfl⟩
          · omega
          · rw [c1]; rfl
          · rw [c1, c2]; rfl
    · by_cases a3 : (p.c i).hu = true
      · by_cases a4 : C2 > 0
        · have hv : p.cv x i = true := by rw [hcv, a3, decide_eq_true a4]; simp
          conv => whnf
          refine splT (by simp only [decide_eq_true_eq, decide_eq_false_iff_not, Bool.not_eq_true', Bool.not_eq_false', gt_iff_lt, ge_iff_le] <;> omega) ?_
          conv => whnf
          refine ⟨(by (try simp only [true_and, and_true, Nat.sub_zero, Nat.zero_add, Int.toNat_natCast]) <;> omega), ?_⟩
          conv => whnf
          refine splF (by simpa using a1) ?_
          conv => whnf
          refine splT a3 ?_
          conv => whnf
          refine ⟨(by (try simp only [true_and, and_true, Nat.sub_zero, Nat.zero_add, Int.toNat_natCast]) <;> omega), ?_⟩
          conv => whnf
          first | refine callF k2 ⟨.refl _, .refl _, trivial⟩ (by trivial) rfl ?_ | ((repeat (refine ⟨by kernel_rfl, ?_⟩; (conv => whnf))); refine callF k2 ⟨.refl _, .refl _, trivial⟩ (by trivial) rfl ?_)
          conv => whnf
          refine ⟨by kernel_rfl, ?_⟩
          conv => whnf
          refine splT (decide_eq_true a4) ?_
          conv => whnf
          have c1 := cnt_step hv
          refine ⟨⟨(show 1 ≤ 1 / 1 - 0 by decide), by omega, by omega, (show (cnt (p.cv x) i + 1) * 8 ≤ 140737488355328 by omega)⟩, ?_⟩
          conv => whnf
          refine fit64 (by omega) ?_
          conv => whnf
          refine ⟨_, ?_, _, _, [bxk 2 [.f (.sl 11 (fun j => (p.c j).c) p.nc none), .f (.sl 5 (fun i => (p.r i).c) p.nr none)], (50, 1, .fa 1 (cnt (p.cv x) i + 1) (fun j => [.int .i64 (nth (p.cv x) (i + 1) j)]))], rfl, ⟨⟨rfl, rfl⟩, .refl _, ⟨rfl, rfl⟩, .fa fun j hj => more_nth hv hj rfl, trivial⟩, i + 1, hik, ?_, ?_, rfl⟩
          · omega
          · rw [c1]; rfl
          · rw [c1]
        · have hv : p.cv x i = false := by rw [hcv, decide_eq_false a4]; simp [a1]
          conv => whnf
          refine splT (by simp only [decide_eq_true_eq, decide_eq_false_iff_not, Bool.not_eq_true', Bool.not_eq_false', gt_iff_lt, ge_iff_le] <;> omega) ?_
          conv => whnf
          refine ⟨(by (try simp only [true_and, and_true, Nat.sub_zero, Nat.zero_add, Int.toNat_natCast]) <;> omega), ?_⟩
          conv => whnf
          refine splF (by simpa using a1) ?_
          conv => whnf
          refine splT a3 ?_
          conv => whnf
          refine ⟨(by (try simp only [true_and, and_true, Nat.sub_zero, Nat.zero_add, Int.toNat_natCast]) <;> omega), ?_⟩
          conv => whnf
          first | refine callF k2 ⟨.refl _, .refl _, trivial⟩ (by trivial) rfl ?_ | ((repeat (refine ⟨by kernel_rfl, ?_⟩; (conv => whnf))); refine callF k2 ⟨.refl _, .refl _, trivial⟩ (by trivial) rfl ?_)
          conv => whnf
          refine ⟨by kernel_rfl, ?_⟩
          conv => whnf
          refine splF (decide_eq_false a4) ?_
          conv => whnf
          obtain ⟨c1, c2⟩ := cnt_same hv
          refine fit64 (by omega) ?_
          conv => whnf
          refine ⟨_, ?_, _, _, _, rfl, .refl _, i + 1, hik, ?_, ?_, rfl⟩
          · omega
          · rw [c1]; rfl
          · rw [c1, c2]; rfl
      · have hv : p.cv x i = false := by rw [hcv]; simp [a1, a3]
        conv => whnf
        refine splT (by simp only [decide_eq_true_eq, decide_eq_false_iff_not, Bool.not_eq_true', Bool.not_eq_false', gt_iff_lt, ge_iff_le] <;> omega) ?_
        conv => whnf
        refine ⟨(by (try simp only [true_and, and_true, Nat.sub_zero, Nat.zero_add, Int.toNat_natCast]) <;> omega), ?_⟩
        conv => whnf
        refine splF (by simpa using a1) ?_
        conv => whnf
        refine splF (by simpa using a3) ?_
        conv => whnf
        refine ⟨by kernel_rfl, ?_⟩
        conv => whnf
        obtain ⟨c1, c2⟩ := cnt_same hv
        refine fit64 (by omega) ?_
        conv => whnf
        refine ⟨_, ?_, _, _, _, rfl, .refl _, i + 1, hik, ?_, ?_, rfl⟩
        · omega
        · rw [c1]; rfl
        · rw [c1, c2]; rfl
  · obtain rfl : i = p.nc := by omega
    conv => whnf
    refine splF (by simp only [decide_eq_true_eq, decide_eq_false_iff_not, Bool.not_eq_true', Bool.not_eq_false', gt_iff_lt, ge_iff_le] <;> omega) ?_
    conv => whnf
    exact ⟨_, _, _, rfl, .refl _, rfl, rfl, rfl⟩
theorem refFeasible_ok {p : Pr} (hp : p.H) {x : Nat → RR} {n : Nat} (hx : XH x n) : ACall Tryz.prog 66 [p.a, rats x n] (.f (.bool (p.feas x n))) := by
  have v0 := ref11Valid_ok hp
  unfold Pr.feas
  by_cases h0 : p.err = 0
  · rw [h0] at v0
    by_cases hn : n = p.nc
    · have he := Pr.errS_zero.2 ⟨h0, hn⟩
      have v1 := refViolated_ok hp hx he
      unfold rvioRes at v1
      rw [decide_eq_true he, Bool.true_and]
      subst hn
      generalize cnt (p.cv x) p.nc = a at *
      generalize cnt (p.rv x) p.nr = b at *
      by_cases h1 : a = 0
      · refine acall_rule env [0, 1, 2, 4, 5, 6, 17] Tryz.func66 rfl rfl rfl rfl ?_
        conv => whnf
        first | refine callF v0 ⟨.refl _, trivial⟩ (by trivial) rfl ?_ | ((repeat (refine ⟨by kernel_rfl, ?_⟩; (conv => whnf))); refine callF v0 ⟨.refl _, trivial⟩ (by trivial) rfl ?_)
        conv => whnf
        refine splF (by simp) ?_
        conv => whnf
        first | refine callF v1 ⟨.refl _, .refl _, trivial⟩ (by trivial) rfl ?_ | ((repeat (refine ⟨by kernel_rfl, ?_⟩; (conv => whnf))); refine callF v1 ⟨.refl _, .refl _, trivial⟩ (by trivial) rfl ?_)
        conv => whnf
        refine splT (decide_eq_true (by omega)) ?_
        conv => whnf
        refine ⟨(by (try simp only [true_and, and_true, Nat.sub_zero, Nat.zero_add, Int.toNat_natCast]) <;> omega), ?_⟩
        refine .bool_of ?_
        rw [decide_eq_true h1, Bool.true_and]
        exact decide_eq_decide.2 (by omega)
      · refine acall_rule env [0, 1, 2, 4, 5, 6, 17] Tryz.func66 rfl rfl rfl rfl ?_
        conv => whnf
        first | refine callF v0 ⟨.refl _, trivial⟩ (by trivial) rfl ?_ | ((repeat (refine ⟨by kernel_rfl, ?_⟩; (conv => whnf))); refine callF v0 ⟨.refl _, trivial⟩ (by trivial) rfl ?_)
        conv => whnf
        refine splF (by simp) ?_
        conv => whnf
        first | refine callF v1 ⟨.refl _, .refl _, trivial⟩ (by trivial) rfl ?_ | ((repeat (refine ⟨by kernel_rfl, ?_⟩; (conv => whnf))); refine callF v1 ⟨.refl _, .refl _, trivial⟩ (by trivial) rfl ?_)
        conv => whnf
        refine splF (decide_eq_false (by omega)) ?_
        conv => whnf
        refine ⟨(by (try simp only [true_and, and_true, Nat.sub_zero, Nat.zero_add, Int.toNat_natCast]) <;> omega), ?_⟩
        refine .bool_of ?_
        rw [decide_eq_false h1]; rfl
    · have he : ¬ p.errS n p.nc = 0 := fun h => hn (Pr.errS_zero.1 h).2
      rw [decide_eq_false he, Bool.false_and]
      refine acall_rule env [0, 1, 2, 4, 5, 6, 17] Tryz.func66 rfl rfl rfl rfl ?_
      conv => whnf
      first | refine callF v0 ⟨.refl _, trivial⟩ (by trivial) rfl ?_ | ((repeat (refine ⟨by kernel_rfl, ?_⟩; (conv => whnf))); refine callF v0 ⟨.refl _, trivial⟩ (by trivial) rfl ?_)
      conv => whnf
      refine splT (by simp; omega) ?_
      conv => whnf
      (repeat (refine ⟨by kernel_rfl, ?_⟩; (conv => whnf)))
      refine ⟨(by (try simp only [true_and, and_true, Nat.sub_zero, Nat.zero_add, Int.toNat_natCast]) <;> omega), ?_⟩
      exact .refl _
  · have he : ¬ p.errS n p.nc = 0 := fun h => h0 (Pr.errS_zero.1 h).1
    rw [decide_eq_false he, Bool.false_and]
    generalize p.err = E at *
    refine acall_rule env [0, 1, 2, 4, 5, 6, 17] Tryz.func66 rfl rfl rfl rfl ?_
    conv => whnf
    first | refine callF v0 ⟨.refl _, trivial⟩ (by trivial) rfl ?_ | ((repeat (refine ⟨by kernel_rfl, ?_⟩; (conv => whnf))); refine callF v0 ⟨.refl _, trivial⟩ (by trivial) rfl ?_)
    conv => whnf
    refine splT (by simp [h0]) ?_
    conv => whnf
    (repeat (refine ⟨by kernel_rfl, ?_⟩; (conv => whnf)))
    refine ⟨(by (try simp only [true_and, and_true, Nat.sub_zero, Nat.zero_add, Int.toNat_natCast]) <;> omega), ?_⟩
    exact .refl _
end Go.Abs

/- The reference's linear programs: multipliers. -/
set_option autoImplicit false
set_option maxHeartbeats 4000000
set_option maxRecDepth 10000
set_option linter.unusedVariables false
set_option linter.unusedSimpArgs false
namespace Go.Abs
open Go Go.Proofs

theorem refReduced_ok {p : Pr} (hp : p.H) {y : Nat → RR} {n : Nat} (hy : XH y n) (he : p.errS n p.nr = 0) : ACall Tryz.prog 50 [p.a, rats y n] (ratsRes (p.red y) p.nc) := by
  obtain ⟨e1, e2⟩ := Pr.errS_zero.1 he
  obtain ⟨b1, b2, _, _⟩ := Pr.err_facts e1
  subst e2
  have hrs := fun j (hj : j < p.nc) i (hi : i ≤ p.nr) => red_sz hp hy b2 hj i hi
  refine acall_rule env [0, 1, 2, 4, 5, 6, 7, 9, 14, 31, 39, 45, 46, 47, 48] Tryz.func50 rfl rfl rfl rfl ?_
  conv => whnf
  refine .weak (nil_weak 5 26 3 (by decide) rfl rfl) ?_
  refine loop_mod [1, 2, 4, 5, 6] [2, 26] [1, 2, 4, 5] [2, 26]
    (fun μ fr hp_ => ∃ i : Nat, i ≤ p.nc ∧ fr = [(1, rats y p.nr), bpk 2 2, (4, nilQ), (5, .lsl 26 1 3 0 i none), (6, .f (.int .i64 i))] ∧
      hp_ = [bxk 2 [.f (.sl 11 (fun j => (p.c j).c) p.nc none), .f (.sl 5 (fun i => (p.r i).c) p.nr none)], (26, 1, .fa 3 i (fun j => (RR.of (p.c j).w.v).c))] ∧ μ = p.nc - i)
    (fun e fr hp_ => e = .exit 0 ∧ fr = [(1, rats y p.nr), bpk 2 2, (4, nilQ), (5, .lsl 26 1 3 0 p.nc none)] ∧
      hp_ = [bxk 2 [.f (.sl 11 (fun j => (p.c j).c) p.nc none), .f (.sl 5 (fun i => (p.r i).c) p.nr none)], (26, 1, .fa 3 p.nc (fun j => (RR.of (redP p y 0 j)).c))])
    ⟨_, _, _, _, rfl, ?_, 0, Nat.zero_le _, rfl, rfl, rfl⟩ ?_ ?_
  · exact ⟨⟨rfl, rfl⟩, .refl _, ⟨rfl, rfl⟩, .fa fun j hj => absurd hj (Nat.not_lt_zero _), trivial⟩
  · rintro _ _ _ ⟨rfl, rfl, rfl⟩
    conv => whnf
    refine loop_mod [1, 2, 4, 5, 7] [2, 26] [4, 5] [26]
      (fun μ fr hp_ => ∃ i : Nat, i ≤ p.nr ∧ fr = [(1, rats y p.nr), bpk 2 2, (4, nilQ), (5, .lsl 26 1 3 0 p.nc none), (7, .f (.int .i64 i))] ∧
        hp_ = [bxk 2 [.f (.sl 11 (fun j => (p.c j).c) p.nc none), .f (.sl 5 (fun i => (p.r i).c) p.nr none)], (26, 1, .fa 3 p.nc (fun j => (RR.of (redP p y i j)).c))] ∧ μ = p.nr - i)
      (fun e fr hp_ => e = .exit 2 ∧ fr = [(4, nilQ), (5, .lsl 26 1 3 0 p.nc none)] ∧ hp_ = [(26, 1, .fa 3 p.nc (fun j => (RR.of (p.red y j)).c))])
      ⟨_, _, _, _, rfl, .refl _, 0, Nat.zero_le _, rfl, rfl, rfl⟩ ?_ ?_
    · rintro _ _ _ ⟨rfl, rfl, rfl⟩
      conv => whnf
      refine ⟨(by (try simp only [true_and, and_true, Nat.sub_zero, Nat.zero_add, Int.toNat_natCast]) <;> omega), ?_⟩
      refine .f (.sl (fun j hj => ?_) (.inl rfl))
      simp only [Nat.zero_add]
      exact .fle_rr _
    rintro μ _ _ ⟨i, hi, rfl, rfl, rfl⟩
    by_cases hik : i < p.nr
    · have s1 := sSign_ok (hy.ok i hik).is (by have := hy.s i hik; omega)
      have hx0 : rcmp (y i).v 0 = 0 ↔ (y i).v = 0 := rcmp_zero
      have hstep : ∀ j, redP p y (i + 1) j = redP p y i j - (y i).v * (p.r i).at j := by intro j; unfold redP; rw [qsum]; grind
      by_cases hz : (y i).v = 0
      · rw [hx0.2 hz] at s1
        have hsame : (fun j => redP p y (i + 1) j) = fun j => redP p y i j := by funext j; rw [hstep, hz]; grind
        conv => whnf
        refine splT (by simp only [decide_eq_true_eq, decide_eq_false_iff_not, Bool.not_eq_true', Bool.not_eq_false', gt_iff_lt, ge_iff_le] <;> omega) ?_
        conv => whnf
        refine ⟨(by (try simp only [true_and, and_true, Nat.sub_zero, Nat.zero_add, Int.toNat_natCast]) <;> omega), ?_⟩
        conv => whnf
        first | refine callF s1 ⟨.refl _, trivial⟩ (by trivial) rfl ?_ | ((repeat (refine ⟨by kernel_rfl, ?_⟩; (conv => whnf))); refine callF s1 ⟨.refl _, trivial⟩ (by trivial) rfl ?_)
        conv => whnf
        refine fit64 (by omega) ?_
        conv => whnf
        refine ⟨_, ?_, _, _, _, rfl, .refl _, i + 1, hik, rfl, ?_, rfl⟩
        · omega
        · have : ∀ j, redP p y (i + 1) j = redP p y i j := fun j => congrFun hsame j
          simp only [this]; rfl
      · have hne : ¬ rcmp (y i).v 0 = 0 := fun h => hz (hx0.1 h)
        have hrow := hp.row e1 hik
        have hz0 : ∀ j, redP p y i j - (y i).v * atP (p.r i) 0 j = redP p y i j := by intro j; unfold atP; rw [qsum]; grind
        have hzk : ∀ j, redP p y i j - (y i).v * atP (p.r i) (p.r i).k j = redP p y (i + 1) j := by intro j; rw [hstep]; rfl
        have hrk := hrow.k
        clear hstep hx0
        conv => whnf
        refine splT (by simp only [decide_eq_true_eq, decide_eq_false_iff_not, Bool.not_eq_true', Bool.not_eq_false', gt_iff_lt, ge_iff_le] <;> omega) ?_
        conv => whnf
        refine ⟨(by (try simp only [true_and, and_true, Nat.sub_zero, Nat.zero_add, Int.toNat_natCast]) <;> omega), ?_⟩
        conv => whnf
        first | refine callF s1 ⟨.refl _, trivial⟩ (by trivial) rfl ?_ | ((repeat (refine ⟨by kernel_rfl, ?_⟩; (conv => whnf))); refine callF s1 ⟨.refl _, trivial⟩ (by trivial) rfl ?_)
        conv => whnf
        refine splF (decide_eq_false hne) ?_
        conv => whnf
        refine ⟨(by (try simp only [true_and, and_true, Nat.sub_zero, Nat.zero_add, Int.toNat_natCast]) <;> omega), ?_⟩
        conv => whnf
        refine loop_mod [1, 2, 4, 5, 7, 45, 46, 47] [2, 26] [1, 2, 4, 5, 7] [2, 26]
          (fun μ fr hp_ => ∃ k : Nat, k ≤ (p.r i).k ∧ fr = [(1, rats y p.nr), bpk 2 2, (4, nilQ), (5, .lsl 26 1 3 0 p.nc none), (7, .f (.int .i64 i)),
              (45, .f (.sl 4 (fun j => ((p.r i).e j).c) (p.r i).k none)), (46, .f (.int .i64 (p.r i).k)), (47, .f (.int .i64 k))] ∧
            hp_ = [bxk 2 [.f (.sl 11 (fun j => (p.c j).c) p.nc none), .f (.sl 5 (fun i => (p.r i).c) p.nr none)], (26, 1, .fa 3 p.nc (fun j => (RR.of (redP p y i j - (y i).v * atP (p.r i) k j)).c))] ∧ μ = (p.r i).k - k)
          (fun e fr hp_ => e = .exit 4 ∧ fr = [(1, rats y p.nr), bpk 2 2, (4, nilQ), (5, .lsl 26 1 3 0 p.nc none), (7, .f (.int .i64 i))] ∧
            hp_ = [bxk 2 [.f (.sl 11 (fun j => (p.c j).c) p.nc none), .f (.sl 5 (fun i => (p.r i).c) p.nr none)], (26, 1, .fa 3 p.nc (fun j => (RR.of (redP p y (i + 1) j)).c))])
          ⟨_, _, _, _, rfl, ?_, 0, Nat.zero_le _, rfl, rfl, rfl⟩ ?_ ?_
        · refine ⟨⟨rfl, rfl⟩, .refl _, ⟨rfl, rfl⟩, .fa fun j hj => ?_, trivial⟩
          rw [hz0]; exact .fle_rr _
        · rintro _ _ _ ⟨rfl, rfl, rfl⟩
          conv => whnf
          refine fit64 (by omega) ?_
          conv => whnf
          refine ⟨_, ?_, _, _, _, rfl, .refl _, i + 1, hik, rfl, rfl, rfl⟩
          omega
        rintro μ _ _ ⟨k, hk, rfl, rfl, rfl⟩
        by_cases hkk : k < (p.r i).k
        · have hin := hrow.i k hkk
          obtain ⟨J, hJ⟩ : ∃ J : Nat, ((p.r i).e k).i = J := ⟨((p.r i).e k).i.toNat, by omega⟩
          have hJn : J < p.nc := by omega
          have hes := hrow.s k hkk
          have m1 := sMul_ok (hy.ok i hik).is (hrow.ok.e k hkk).v.is (by have := hy.s i hik; omega)
          have zm := rsz_mul (hy.ok i hik).size (hrow.ok.e k hkk).v.size
          have zD : rsz (redP p y i J - (y i).v * atP (p.r i) k J) ≤ 40000000 := by
            have h1 := at_sz (hp.ok.r i hik) J k hk
            have h2 := rsz_mul (hy.ok i hik).size h1
            have h3 := rsz_sub (hrs J hJn i hi) h2
            have := hy.s i hik
            have h5 := Pr.rsz hik
            have h6 := hp.s
            have h7 : (p.r i).sz = (p.r i).b.sz + (p.r i).esz + 1 := rfl
            exact Nat.le_trans h3 (by omega)
          have u1 := sSub_ok (isR_rat _ zD) (isR_rat _ zm) (by have := hy.s i hik; omega)
          have hat : ∀ j : Nat, atP (p.r i) (k + 1) j = atP (p.r i) k j + (if ((p.r i).e k).i = j then ((p.r i).e k).v.v else 0) := fun j => rfl
          have hnew : redP p y i J - (y i).v * atP (p.r i) k J - (y i).v * ((p.r i).e k).v.v = redP p y i J - (y i).v * atP (p.r i) (k + 1) J := by rw [hat, if_pos hJ]; grind
          rw [hnew] at u1
          have hold : ∀ j : Nat, j ≠ J → redP p y i j - (y i).v * atP (p.r i) (k + 1) j = redP p y i j - (y i).v * atP (p.r i) k j := by intro j hj; rw [hat, if_neg (by omega)]; grind
          rw [← RR.of_a] at u1
          have hJ1 : 0 + ((p.r i).e (Int.toNat (k : Int))).i.toNat = J := by rw [Int.toNat_natCast]; omega
          conv => whnf
          refine splT (by simp only [decide_eq_true_eq, decide_eq_false_iff_not, Bool.not_eq_true', Bool.not_eq_false', gt_iff_lt, ge_iff_le] <;> omega) ?_
          conv => whnf
          refine ⟨(by (try simp only [true_and, and_true, Nat.sub_zero, Nat.zero_add, Int.toNat_natCast]) <;> omega), ?_⟩
          conv => whnf
          refine ⟨by rw [Int.toNat_natCast]; omega, ?_⟩
          conv => whnf
          refine ⟨(by (try simp only [true_and, and_true, Nat.sub_zero, Nat.zero_add, Int.toNat_natCast]) <;> omega), ?_⟩
          conv => whnf
          refine ⟨(by (try simp only [true_and, and_true, Nat.sub_zero, Nat.zero_add, Int.toNat_natCast]) <;> omega), ?_⟩
          conv => whnf
          first | refine callF m1 ⟨.refl _, .refl _, trivial⟩ (by trivial) rfl ?_ | ((repeat (refine ⟨by kernel_rfl, ?_⟩; (conv => whnf))); refine callF m1 ⟨.refl _, .refl _, trivial⟩ (by trivial) rfl ?_)
          conv => whnf
          refine callF u1 ⟨?_, .refl _, trivial⟩ (by trivial) rfl ?_
          · rw [hJ1]; exact .refl _
          conv => whnf
          refine ⟨by rw [Int.toNat_natCast]; omega, ?_⟩
          conv => whnf
          refine ⟨by rw [hJ1]; exact hJn, ?_⟩
          conv => whnf
          refine ⟨by kernel_rfl, ?_⟩
          conv => whnf
          refine fit64 (by omega) ?_
          conv => whnf
          refine ⟨_, ?_, _, _, _, rfl, ?_, k + 1, hkk, rfl, rfl, rfl⟩
          · omega
          refine ⟨⟨rfl, rfl⟩, .refl _, ⟨rfl, rfl⟩, .fa fun j hj => upd_le (i := J) hJ1 (fun h => ?_) (fun h => ?_), trivial⟩
          · subst h; exact All2.fle_rr (RR.of (redP p y i j - (y i).v * atP (p.r i) (k + 1) j))
          · rw [hold j h]; exact .fle_rr _
        · obtain rfl : k = (p.r i).k := by omega
          conv => whnf
          refine splF (by simp only [decide_eq_true_eq, decide_eq_false_iff_not, Bool.not_eq_true', Bool.not_eq_false', gt_iff_lt, ge_iff_le] <;> omega) ?_
          conv => whnf
          refine ⟨_, _, _, rfl, ?_, rfl, rfl, rfl⟩
          refine ⟨⟨rfl, rfl⟩, .refl _, ⟨rfl, rfl⟩, .fa fun j hj => ?_, trivial⟩
          rw [hzk]; exact .fle_rr _
    · obtain rfl : i = p.nr := by omega
      conv => whnf
      refine splF (by simp only [decide_eq_true_eq, decide_eq_false_iff_not, Bool.not_eq_true', Bool.not_eq_false', gt_iff_lt, ge_iff_le] <;> omega) ?_
      conv => whnf
      exact ⟨_, _, _, rfl, .refl _, rfl, rfl, rfl⟩
  rintro μ _ _ ⟨i, hi, rfl, rfl, rfl⟩
  by_cases hik : i < p.nc
  · have hsz : (p.c i).sz ≤ 4194304 := Nat.le_trans (Pr.csz hik) hp.s
    unfold Co.sz at hsz
    have a1 := sNorm_ok (hp.ok.c i hik).w.is (by omega)
    conv => whnf
    refine splT (by simp only [decide_eq_true_eq, decide_eq_false_iff_not, Bool.not_eq_true', Bool.not_eq_false', gt_iff_lt, ge_iff_le] <;> omega) ?_
    conv => whnf
    refine ⟨(by (try simp only [true_and, and_true, Nat.sub_zero, Nat.zero_add, Int.toNat_natCast]) <;> omega), ?_⟩
    conv => whnf
    first | refine callF a1 ⟨.refl _, trivial⟩ (by trivial) rfl ?_ | ((repeat (refine ⟨by kernel_rfl, ?_⟩; (conv => whnf))); refine callF a1 ⟨.refl _, trivial⟩ (by trivial) rfl ?_)
    conv => whnf
    refine ⟨⟨(show 1 ≤ 3 / 3 - 0 by decide), by omega, by omega, (show (i + 1) * 56 ≤ 140737488355328 by omega)⟩, ?_⟩
    conv => whnf
    refine fit64 (by omega) ?_
    conv => whnf
    refine ⟨_, ?_, _, _, [bxk 2 [.f (.sl 11 (fun j => (p.c j).c) p.nc none), .f (.sl 5 (fun i => (p.r i).c) p.nr none)], (26, 1, .fa 3 (i + 1) (fun j => (RR.of (p.c j).w.v).c))], rfl, ⟨⟨rfl, rfl⟩, .refl _, ⟨rfl, rfl⟩, .fa fun j hj => more_rr (f := fun j => RR.of (p.c j).w.v) hj rfl, trivial⟩, i + 1, hik, rfl, rfl, rfl⟩
    omega
  · obtain rfl : i = p.nc := by omega
    conv => whnf
    refine splF (by simp only [decide_eq_true_eq, decide_eq_false_iff_not, Bool.not_eq_true', Bool.not_eq_false', gt_iff_lt, ge_iff_le] <;> omega) ?_
    conv => whnf
    refine ⟨_, _, _, rfl, ?_, rfl, rfl, rfl⟩
    refine ⟨⟨rfl, rfl⟩, .refl _, ⟨rfl, rfl⟩, .fa fun j hj => ?_, trivial⟩
    have : redP p y 0 j = (p.c j).w.v := by unfold redP; rw [qsum]; grind
    rw [this]; exact .fle_rr _

theorem refSigned_ok {p : Pr} (hp : p.H) {y : Nat → RR} {n : Nat} (hy : XH y n) : ACall Tryz.prog 48 [p.a, rats y n] (.f (.bool (p.sgnd y n))) := by
  have v0 := ref11Valid_ok hp
  unfold Pr.sgnd
  by_cases he : p.errS n p.nr = 0
  · obtain ⟨e1, e2⟩ := Pr.errS_zero.1 he
    obtain ⟨b1, b2, _, _⟩ := Pr.err_facts e1
    rw [decide_eq_true he, Bool.true_and]
    rw [e1] at v0
    subst e2
    obtain ⟨B, hB⟩ : ∃ B, allB (fun i => signB (p.r i).s (y i).v) p.nr = B := ⟨_, rfl⟩
    rw [hB]
    refine acall_rule env [0, 1, 2, 4, 5, 6, 17, 21, 52] Tryz.func48 rfl rfl rfl rfl ?_
    conv => whnf
    first | refine callF v0 ⟨.refl _, trivial⟩ (by trivial) rfl ?_ | ((repeat (refine ⟨by kernel_rfl, ?_⟩; (conv => whnf))); refine callF v0 ⟨.refl _, trivial⟩ (by trivial) rfl ?_)
    conv => whnf
    refine splF (by simp) ?_
    conv => whnf
    refine loop_mod [1, 2, 4, 5] [2] [4] []
      (fun μ fr hp_ => ∃ i : Nat, i ≤ p.nr ∧ allB (fun i => signB (p.r i).s (y i).v) i = true ∧ fr = [(1, rats y p.nr), bpk 2 2, (4, .f (.bool false)), (5, .f (.int .i64 i))] ∧ hp_ = [bxk 2 [.f (.sl 11 (fun j => (p.c j).c) p.nc none), .f (.sl 5 (fun i => (p.r i).c) p.nr none)]] ∧ μ = p.nr - i)
      (fun x fr hp_ => (x = .exit 0 ∧ B = true ∧ fr = [(4, .f (.bool false))] ∧ hp_ = []) ∨ (x = .ret ∧ B = false ∧ fr = [(4, .f (.bool false))] ∧ hp_ = []))
      ⟨_, _, _, _, rfl, .refl _, 0, Nat.zero_le _, rfl, rfl, rfl, rfl⟩ ?_ ?_
    · rintro _ _ _ (⟨rfl, rfl, rfl, rfl⟩ | ⟨rfl, rfl, rfl, rfl⟩)
      · conv => whnf
        (repeat (refine ⟨by kernel_rfl, ?_⟩; (conv => whnf)))
        refine ⟨(by (try simp only [true_and, and_true, Nat.sub_zero, Nat.zero_add, Int.toNat_natCast]) <;> omega), ?_⟩
        exact .refl _
      · conv => whnf
        (repeat (refine ⟨by kernel_rfl, ?_⟩; (conv => whnf)))
        refine ⟨(by (try simp only [true_and, and_true, Nat.sub_zero, Nat.zero_add, Int.toNat_natCast]) <;> omega), ?_⟩
        exact .refl _
    rintro μ _ _ ⟨i, hi, hall, rfl, rfl, rfl⟩
    by_cases hik : i < p.nr
    · have s1 := sSign_ok (hy.ok i hik).is (by have := hy.s i hik; omega)
      have hf : signB (p.r i).s (y i).v = false → B = false := fun h => hB.symm.trans (allB_false hik h)
      have hb : allB (fun i => signB (p.r i).s (y i).v) (i + 1) = signB (p.r i).s (y i).v := by rw [allB, hall, Bool.true_and]
      have q1 : decide (0 < (y i).v) = decide (rcmp (y i).v 0 > 0) := decide_eq_decide.2 rcmp_pos.symm
      have q2 : decide ((y i).v < 0) = decide (rcmp (y i).v 0 < 0) := decide_eq_decide.2 (by
        constructor
        · intro h; rw [rcmp_lt h]; decide
        · intro h; exact Rat.not_le.1 fun h' => by have := rcmp_le.2 h'; rw [rcmp_neg] at this; omega)
      have hsb : signB (p.r i).s (y i).v = !((decide ((p.r i).s = -1) && decide (0 < (y i).v)) || (decide ((p.r i).s = 1) && decide ((y i).v < 0))) := rfl
      rw [q1, q2] at hsb
      generalize rcmp (y i).v 0 = C at *
      clear q1 q2
      by_cases a1 : (p.r i).s = -1
      · by_cases a2 : C > 0
        · have hv : signB (p.r i).s (y i).v = false := by rw [hsb, decide_eq_true a1, decide_eq_true a2]; rfl
          conv => whnf
          refine splT (by simp only [decide_eq_true_eq, decide_eq_false_iff_not, Bool.not_eq_true', Bool.not_eq_false', gt_iff_lt, ge_iff_le] <;> omega) ?_
          conv => whnf
          refine ⟨(by (try simp only [true_and, and_true, Nat.sub_zero, Nat.zero_add, Int.toNat_natCast]) <;> omega), ?_⟩
          conv => whnf
          first | refine callF s1 ⟨.refl _, trivial⟩ (by trivial) rfl ?_ | ((repeat (refine ⟨by kernel_rfl, ?_⟩; (conv => whnf))); refine callF s1 ⟨.refl _, trivial⟩ (by trivial) rfl ?_)
          conv => whnf
          refine ⟨(by (try simp only [true_and, and_true, Nat.sub_zero, Nat.zero_add, Int.toNat_natCast]) <;> omega), ?_⟩
          conv => whnf
          refine splT (decide_eq_true a1) ?_
          conv => whnf
          refine splT (decide_eq_true a2) ?_
          conv => whnf
          exact ⟨_, _, _, rfl, .refl _, .inr ⟨rfl, hf hv, rfl, rfl⟩⟩
        · have hv : signB (p.r i).s (y i).v = true := by rw [hsb, decide_eq_false a2, decide_eq_false (show ¬ (p.r i).s = 1 by omega)]; simp
          conv => whnf
          refine splT (by simp only [decide_eq_true_eq, decide_eq_false_iff_not, Bool.not_eq_true', Bool.not_eq_false', gt_iff_lt, ge_iff_le] <;> omega) ?_
          conv => whnf
          refine ⟨(by (try simp only [true_and, and_true, Nat.sub_zero, Nat.zero_add, Int.toNat_natCast]) <;> omega), ?_⟩
          conv => whnf
          first | refine callF s1 ⟨.refl _, trivial⟩ (by trivial) rfl ?_ | ((repeat (refine ⟨by kernel_rfl, ?_⟩; (conv => whnf))); refine callF s1 ⟨.refl _, trivial⟩ (by trivial) rfl ?_)
          conv => whnf
          refine ⟨(by (try simp only [true_and, and_true, Nat.sub_zero, Nat.zero_add, Int.toNat_natCast]) <;> omega), ?_⟩
          conv => whnf
          refine splT (decide_eq_true a1) ?_
          conv => whnf
          refine splF (decide_eq_false a2) ?_
          conv => whnf
          refine ⟨(by (try simp only [true_and, and_true, Nat.sub_zero, Nat.zero_add, Int.toNat_natCast]) <;> omega), ?_⟩
          conv => whnf
          refine splF (decide_eq_false (show ¬ (p.r i).s = 1 by omega)) ?_
          conv => whnf
          refine fit64 (by omega) ?_
          conv => whnf
          refine ⟨_, ?_, _, _, _, rfl, .refl _, i + 1, hik, by rw [hb, hv], rfl, rfl, rfl⟩
          omega
      · by_cases a3 : (p.r i).s = 1
        · by_cases a4 : C < 0
          · have hv : signB (p.r i).s (y i).v = false := by rw [hsb, decide_eq_true a3, decide_eq_true a4]; simp
            conv => whnf
            refine splT (by simp only [decide_eq_true_eq, decide_eq_false_iff_not, Bool.not_eq_true', Bool.not_eq_false', gt_iff_lt, ge_iff_le] <;> omega) ?_
            conv => whnf
            refine ⟨(by (try simp only [true_and, and_true, Nat.sub_zero, Nat.zero_add, Int.toNat_natCast]) <;> omega), ?_⟩
            conv => whnf
            first | refine callF s1 ⟨.refl _, trivial⟩ (by trivial) rfl ?_ | ((repeat (refine ⟨by kernel_rfl, ?_⟩; (conv => whnf))); refine callF s1 ⟨.refl _, trivial⟩ (by trivial) rfl ?_)
            conv => whnf
            refine ⟨(by (try simp only [true_and, and_true, Nat.sub_zero, Nat.zero_add, Int.toNat_natCast]) <;> omega), ?_⟩
            conv => whnf
            refine splF (decide_eq_false a1) ?_
            conv => whnf
            refine ⟨(by (try simp only [true_and, and_true, Nat.sub_zero, Nat.zero_add, Int.toNat_natCast]) <;> omega), ?_⟩
            conv => whnf
            refine splT (decide_eq_true a3) ?_
            conv => whnf
            refine splT (decide_eq_true a4) ?_
            conv => whnf
            exact ⟨_, _, _, rfl, .refl _, .inr ⟨rfl, hf hv, rfl, rfl⟩⟩
          · have hv : signB (p.r i).s (y i).v = true := by rw [hsb, decide_eq_false a1, decide_eq_false a4]; simp
            conv => whnf
            refine splT (by simp only [decide_eq_true_eq, decide_eq_false_iff_not, Bool.not_eq_true', Bool.not_eq_false', gt_iff_lt, ge_iff_le] <;> omega) ?_
            conv => whnf
            refine ⟨(by (try simp only [true_and, and_true, Nat.sub_zero, Nat.zero_add, Int.toNat_natCast]) <;> omega), ?_⟩
            conv => whnf
            first | refine callF s1 ⟨.refl _, trivial⟩ (by trivial) rfl ?_ | ((repeat (refine ⟨by kernel_rfl, ?_⟩; (conv => whnf))); refine callF s1 ⟨.refl _, trivial⟩ (by trivial) rfl ?_)
            conv => whnf
            refine ⟨(by (try simp only [true_and, and_true, Nat.sub_zero, Nat.zero_add, Int.toNat_natCast]) <;> omega), ?_⟩
            conv => whnf
            refine splF (decide_eq_false a1) ?_
            conv => whnf
            refine ⟨(by (try simp only [true_and, and_true, Nat.sub_zero, Nat.zero_add, Int.toNat_natCast]) <;> omega), ?_⟩
            conv => whnf
            refine splT (decide_eq_true a3) ?_
            conv => whnf
            refine splF (decide_eq_false a4) ?_
            conv => whnf
            refine fit64 (by omega) ?_
            conv => whnf
            refine ⟨_, ?_, _, _, _, rfl, .refl _, i + 1, hik, by rw [hb, hv], rfl, rfl, rfl⟩
            omega
        · have hv : signB (p.r i).s (y i).v = true := by rw [hsb, decide_eq_false a1, decide_eq_false a3]; simp
          conv => whnf
          refine splT (by simp only [decide_eq_true_eq, decide_eq_false_iff_not, Bool.not_eq_true', Bool.not_eq_false', gt_iff_lt, ge_iff_le] <;> omega) ?_
          conv => whnf
          refine ⟨(by (try simp only [true_and, and_true, Nat.sub_zero, Nat.zero_add, Int.toNat_natCast]) <;> omega), ?_⟩
          conv => whnf
          first | refine callF s1 ⟨.refl _, trivial⟩ (by trivial) rfl ?_ | ((repeat (refine ⟨by kernel_rfl, ?_⟩; (conv => whnf))); refine callF s1 ⟨.refl _, trivial⟩ (by trivial) rfl ?_)
          conv => whnf
          refine ⟨(by (try simp only [true_and, and_true, Nat.sub_zero, Nat.zero_add, Int.toNat_natCast]) <;> omega), ?_⟩
          conv => whnf
          refine splF (decide_eq_false a1) ?_
          conv => whnf
          refine ⟨(by (try simp only [true_and, and_true, Nat.sub_zero, Nat.zero_add, Int.toNat_natCast]) <;> omega), ?_⟩
          conv => whnf
          refine splF (decide_eq_false a3) ?_
          conv => whnf
          refine fit64 (by omega) ?_
          conv => whnf
          refine ⟨_, ?_, _, _, _, rfl, .refl _, i + 1, hik, by rw [hb, hv], rfl, rfl, rfl⟩
          omega
    · obtain rfl : i = p.nr := by omega
      conv => whnf
      refine splF (by simp only [decide_eq_true_eq, decide_eq_false_iff_not, Bool.not_eq_true', Bool.not_eq_false', gt_iff_lt, ge_iff_le] <;> omega) ?_
      conv => whnf
      exact ⟨_, _, _, rfl, .refl _, .inl ⟨rfl, by rw [← hB, hall], rfl, rfl⟩⟩
  · rw [decide_eq_false he, Bool.false_and]
    by_cases h0 : p.err = 0
    · have hn : n ≠ p.nr := fun h => he (Pr.errS_zero.2 ⟨h0, h⟩)
      rw [h0] at v0
      refine acall_rule env [0, 1, 2, 4, 5, 6, 17, 21, 52] Tryz.func48 rfl rfl rfl rfl ?_
      conv => whnf
      first | refine callF v0 ⟨.refl _, trivial⟩ (by trivial) rfl ?_ | ((repeat (refine ⟨by kernel_rfl, ?_⟩; (conv => whnf))); refine callF v0 ⟨.refl _, trivial⟩ (by trivial) rfl ?_)
      conv => whnf
      refine splT (by simp; omega) ?_
      conv => whnf
      (repeat (refine ⟨by kernel_rfl, ?_⟩; (conv => whnf)))
      refine ⟨(by (try simp only [true_and, and_true, Nat.sub_zero, Nat.zero_add, Int.toNat_natCast]) <;> omega), ?_⟩
      exact .refl _
    · generalize p.err = E at *
      refine acall_rule env [0, 1, 2, 4, 5, 6, 17, 21, 52] Tryz.func48 rfl rfl rfl rfl ?_
      conv => whnf
      first | refine callF v0 ⟨.refl _, trivial⟩ (by trivial) rfl ?_ | ((repeat (refine ⟨by kernel_rfl, ?_⟩; (conv => whnf))); refine callF v0 ⟨.refl _, trivial⟩ (by trivial) rfl ?_)
      conv => whnf
      refine splT (by simp [h0]) ?_
      conv => whnf
      (repeat (refine ⟨by kernel_rfl, ?_⟩; (conv => whnf)))
      refine ⟨(by (try simp only [true_and, and_true, Nat.sub_zero, Nat.zero_add, Int.toNat_natCast]) <;> omega), ?_⟩
      exact .refl _
theorem refBound_ok {p : Pr} (hp : p.H) {y : Nat → RR} {n : Nat} (hy : XH y n) : ACall Tryz.prog 47 [p.a, rats y n] (bndRes p y n) := by
  have sg := refSigned_ok hp hy
  have rd := fun he => refReduced_ok hp hy he
  have z1 := sZero_ok
  unfold bndRes Pr.bndOk
  cases hs : p.sgnd y n with
  | false =>
    rw [hs] at sg
    rw [if_neg (by simp)]
    refine acall_rule env [0, 1, 2, 4, 5, 6, 7, 8, 9, 10, 14, 20, 42, 54, 55, 59, 70, 74] Tryz.func47 rfl rfl rfl rfl ?_
    conv => whnf
    first | refine callF sg ⟨.refl _, .refl _, trivial⟩ (by trivial) rfl ?_ | ((repeat (refine ⟨by kernel_rfl, ?_⟩; (conv => whnf))); refine callF sg ⟨.refl _, .refl _, trivial⟩ (by trivial) rfl ?_)
    conv => whnf
    refine ⟨(by (try simp only [true_and, and_true, Nat.sub_zero, Nat.zero_add, Int.toNat_natCast]) <;> omega), ?_⟩
    exact .tup ⟨.rat0, .refl _, trivial⟩
  | true =>
    rw [hs] at sg
    rw [Bool.true_and]
    have he : p.errS n p.nr = 0 := by unfold Pr.sgnd at hs; simp only [Bool.and_eq_true, decide_eq_true_eq] at hs; exact hs.1
    have rd := rd he
    obtain ⟨e1, e2⟩ := Pr.errS_zero.1 he
    obtain ⟨b1, b2, _, _⟩ := Pr.err_facts e1
    subst e2
    have ht1 : ∀ i, i < p.nr → rsz ((y i).v * (p.r i).b.v) ≤ 8388608 := by
      intro i hi
      have h1 := prod_sz (hy.ok i hi) (hp.ok.r i hi).b
      have h2 := Pr.rsz hi
      have h3 := hp.s
      have h4 := hy.s i hi
      unfold Ro.sz at h2
      omega
    have hp1 : ∀ i, i ≤ p.nr → rsz (qsum (fun i => (y i).v * (p.r i).b.v) i) ≤ 137455730690 := by
      intro i hi
      have := qpart_sz ht1 hi
      have h2 : p.nr * (8388608 + 1) ≤ 16384 * (8388608 + 1) := Nat.mul_le_mul_right _ b2
      omega
    have hp2 : ∀ j, j ≤ p.nc → rsz (qsum (fun j => colB (p.c j) (p.red y j)) j) ≤ 481304838145 := by
      intro j hj
      have := qpart_sz (fun j hj => colB_sz hp hy b2 hj) hj
      have h2 : p.nc * (29376515 + 1) ≤ 16384 * (29376515 + 1) := Nat.mul_le_mul_right _ b1
      omega
    have hrz : ∀ j, j < p.nc → rsz (p.red y j) ≤ 25182211 := fun j hj => red_sz hp hy b2 hj p.nr (Nat.le_refl _)
    obtain ⟨B, hB⟩ : ∃ B, allB (fun j => colHas (p.c j) (p.red y j)) p.nc = B := ⟨_, rfl⟩
    rw [hB]
    obtain ⟨Y, hY⟩ : ∃ Y, qsum (fun i => (y i).v * (p.r i).b.v) p.nr = Y := ⟨_, rfl⟩
    have hYz : rsz Y ≤ 137455730690 := by rw [← hY]; exact hp1 _ (Nat.le_refl _)
    have hbnd : p.bnd y = Y + qsum (fun j => colB (p.c j) (p.red y j)) p.nc := by rw [← hY]; rfl
    rw [hbnd]
    refine acall_rule env [0, 1, 2, 4, 5, 6, 7, 8, 9, 10, 14, 20, 42, 54, 55, 59, 70, 74] Tryz.func47 rfl rfl rfl rfl ?_
    conv => whnf
    first | refine callF sg ⟨.refl _, .refl _, trivial⟩ (by trivial) rfl ?_ | ((repeat (refine ⟨by kernel_rfl, ?_⟩; (conv => whnf))); refine callF sg ⟨.refl _, .refl _, trivial⟩ (by trivial) rfl ?_)
    conv => whnf
    first | refine callF z1 trivial (by trivial) rfl ?_ | ((repeat (refine ⟨by kernel_rfl, ?_⟩; (conv => whnf))); refine callF z1 trivial (by trivial) rfl ?_)
    conv => whnf
    refine loop_mod [1, 2, 4, 5, 6, 7] [2, 4, 6] [1, 2, 4, 5, 6] [2, 4, 6]
      (fun μ fr hp_ => ∃ i : Nat, i ≤ p.nr ∧ fr = [(1, rats y p.nr), bpk 2 2, bp3 4, (5, .f (.bool false)), bp3 6, (7, .f (.int .i64 i))] ∧
        hp_ = [bxk 2 [.f (.sl 11 (fun j => (p.c j).c) p.nc none), .f (.sl 5 (fun i => (p.r i).c) p.nr none)], bx3 4 zR, bx3 6 (ratL (qsum (fun i => (y i).v * (p.r i).b.v) i))] ∧ μ = p.nr - i)
      (fun e fr hp_ => e = .exit 0 ∧ fr = [(1, rats y p.nr), bpk 2 2, bp3 4, (5, .f (.bool false)), bp3 6] ∧
        hp_ = [bxk 2 [.f (.sl 11 (fun j => (p.c j).c) p.nc none), .f (.sl 5 (fun i => (p.r i).c) p.nr none)], bx3 4 zR, bx3 6 (ratL Y)])
      ⟨_, _, _, _, rfl, .refl _, 0, Nat.zero_le _, rfl, rfl, rfl⟩ ?_ ?_
    · rintro _ _ _ ⟨rfl, rfl, rfl⟩
      have hY0 : Y + qsum (fun j => colB (p.c j) (p.red y j)) 0 = Y := by rw [qsum]; exact Rat.add_zero _
      clear hY ht1 hp1
      conv => whnf
      first | refine callF rd ⟨.refl _, .refl _, trivial⟩ (by trivial) rfl ?_ | ((repeat (refine ⟨by kernel_rfl, ?_⟩; (conv => whnf))); refine callF rd ⟨.refl _, .refl _, trivial⟩ (by trivial) rfl ?_)
      conv => whnf
      refine loop_mod [2, 4, 5, 6, 8, 9] [2, 4, 6] [4, 5, 6] [4, 6]
        (fun μ fr hp_ => ∃ i : Nat, i ≤ p.nc ∧ allB (fun j => colHas (p.c j) (p.red y j)) i = true ∧ fr = [bpk 2 2, bp3 4, (5, .f (.bool false)), bp3 6, (8, ratsRes (p.red y) p.nc), (9, .f (.int .i64 i))] ∧
          hp_ = [bxk 2 [.f (.sl 11 (fun j => (p.c j).c) p.nc none), .f (.sl 5 (fun i => (p.r i).c) p.nr none)], bx3 4 zR, bx3 6 (ratL (Y + qsum (fun j => colB (p.c j) (p.red y j)) i))] ∧ μ = p.nc - i)
        (fun e fr hp_ => (e = .exit 2 ∧ B = true ∧ fr = [bp3 4, (5, .f (.bool false)), bp3 6] ∧ hp_ = [bx3 4 zR, bx3 6 (ratL (Y + qsum (fun j => colB (p.c j) (p.red y j)) p.nc))]) ∨
          (e = .ret ∧ B = false ∧ ∃ q, fr = [bp3 4, (5, .f (.bool false)), bp3 6] ∧ hp_ = [bx3 4 zR, bx3 6 (ratL q)]))
        ⟨_, _, _, _, rfl, ?_, 0, Nat.zero_le _, rfl, rfl, rfl, rfl⟩ ?_ ?_
      · exact ⟨⟨rfl, rfl⟩, .refl _, ⟨rfl, rfl⟩, .refl _, ⟨rfl, rfl⟩, by rw [hY0]; exact .refl _, trivial⟩
      · rintro _ _ _ (⟨rfl, rfl, rfl, rfl⟩ | ⟨rfl, rfl, q, rfl, rfl⟩)
        · rw [if_pos rfl]
          conv => whnf
          (repeat (refine ⟨by kernel_rfl, ?_⟩; (conv => whnf)))
          refine ⟨(by (try simp only [true_and, and_true, Nat.sub_zero, Nat.zero_add, Int.toNat_natCast]) <;> omega), ?_⟩
          exact .refl _
        · rw [if_neg (by simp)]
          conv => whnf
          refine ⟨(by (try simp only [true_and, and_true, Nat.sub_zero, Nat.zero_add, Int.toNat_natCast]) <;> omega), ?_⟩
          exact .tup ⟨.rat0, .refl _, trivial⟩
      rintro μ _ _ ⟨i, hi, hall, rfl, rfl, rfl⟩
      by_cases hik : i < p.nc
      · have hc := hp.ok.c i hik
        have hsz : (p.c i).sz ≤ 4194304 := Nat.le_trans (Pr.csz hik) hp.s
        unfold Co.sz at hsz
        have zr := hrz i hik
        have s1 := sSign_ok (isR_rat _ zr) (by omega)
        have hf : colHas (p.c i) (p.red y i) = false → B = false := fun h => hB.symm.trans (allB_false hik h)
        have hb : allB (fun j => colHas (p.c j) (p.red y j)) (i + 1) = colHas (p.c i) (p.red y i) := by rw [allB, hall, Bool.true_and]
        have hS : Y + qsum (fun j => colB (p.c j) (p.red y j)) (i + 1) = Y + qsum (fun j => colB (p.c j) (p.red y j)) i + colB (p.c i) (p.red y i) := by rw [qsum]; grind
        have zq := rsz_add hYz (hp2 i hi)
        have hcH : colHas (p.c i) (p.red y i) = ((decide (p.red y i = 0)) || (decide (0 < p.red y i) && (p.c i).hl) || (decide (p.red y i < 0) && (p.c i).hu)) := rfl
        have hcB : colB (p.c i) (p.red y i) = if 0 < p.red y i then p.red y i * (p.c i).lo.v else if p.red y i < 0 then p.red y i * (p.c i).up.v else 0 := rfl
        have m1 := sMul_ok (isR_rat _ zr) hc.lo.is (by omega)
        have m2 := sMul_ok (isR_rat _ zr) hc.up.is (by omega)
        have zm1 := rsz_mul zr hc.lo.size
        have zm2 := rsz_mul zr hc.up.size
        rcases rcmp_cases (p.red y i) with ⟨h1, h2⟩ | ⟨h1, h2⟩ | ⟨h1, h2⟩
        · rw [h2] at s1
          rw [decide_eq_false (show ¬ p.red y i = 0 by grind), decide_eq_true h1, decide_eq_false (show ¬ p.red y i < 0 by grind)] at hcH
          rw [if_pos h1] at hcB
          cases hhl : (p.c i).hl with
          | true =>
            rw [hhl] at hcH
            have a1 := sAdd_ok (isR_rat _ zq) (isR_rat _ zm1) (by omega)
            rw [hcB] at hS
            rw [← hS] at a1
            conv => whnf
            refine splT (by simp only [decide_eq_true_eq, decide_eq_false_iff_not, Bool.not_eq_true', Bool.not_eq_false', gt_iff_lt, ge_iff_le] <;> omega) ?_
            conv => whnf
            refine ⟨(by (try simp only [true_and, and_true, Nat.sub_zero, Nat.zero_add, Int.toNat_natCast]) <;> omega), ?_⟩
            conv => whnf
            refine ⟨(by (try simp only [true_and, and_true, Nat.sub_zero, Nat.zero_add, Int.toNat_natCast]) <;> omega), ?_⟩
            conv => whnf
            first | refine callF s1 ⟨.refl _, trivial⟩ (by trivial) rfl ?_ | ((repeat (refine ⟨by kernel_rfl, ?_⟩; (conv => whnf))); refine callF s1 ⟨.refl _, trivial⟩ (by trivial) rfl ?_)
            conv => whnf
            refine splF (show (!(p.c i).hl) = false by rw [hhl]; rfl) ?_
            conv => whnf
            refine ⟨(by (try simp only [true_and, and_true, Nat.sub_zero, Nat.zero_add, Int.toNat_natCast]) <;> omega), ?_⟩
            conv => whnf
            first | refine callF m1 ⟨.refl _, .refl _, trivial⟩ (by trivial) rfl ?_ | ((repeat (refine ⟨by kernel_rfl, ?_⟩; (conv => whnf))); refine callF m1 ⟨.refl _, .refl _, trivial⟩ (by trivial) rfl ?_)
            conv => whnf
            first | refine callF a1 ⟨.refl _, .refl _, trivial⟩ (by trivial) rfl ?_ | ((repeat (refine ⟨by kernel_rfl, ?_⟩; (conv => whnf))); refine callF a1 ⟨.refl _, .refl _, trivial⟩ (by trivial) rfl ?_)
            conv => whnf
            refine ⟨by kernel_rfl, ?_⟩
            conv => whnf
            refine fit64 (by omega) ?_
            conv => whnf
            refine ⟨_, ?_, _, _, _, rfl, .refl _, i + 1, hik, by rw [hb, hcH]; rfl, rfl, rfl, rfl⟩
            omega
          | false =>
            rw [hhl] at hcH
            conv => whnf
            refine splT (by simp only [decide_eq_true_eq, decide_eq_false_iff_not, Bool.not_eq_true', Bool.not_eq_false', gt_iff_lt, ge_iff_le] <;> omega) ?_
            conv => whnf
            refine ⟨(by (try simp only [true_and, and_true, Nat.sub_zero, Nat.zero_add, Int.toNat_natCast]) <;> omega), ?_⟩
            conv => whnf
            refine ⟨(by (try simp only [true_and, and_true, Nat.sub_zero, Nat.zero_add, Int.toNat_natCast]) <;> omega), ?_⟩
            conv => whnf
            first | refine callF s1 ⟨.refl _, trivial⟩ (by trivial) rfl ?_ | ((repeat (refine ⟨by kernel_rfl, ?_⟩; (conv => whnf))); refine callF s1 ⟨.refl _, trivial⟩ (by trivial) rfl ?_)
            conv => whnf
            refine splT (show (!(p.c i).hl) = true by rw [hhl]; rfl) ?_
            conv => whnf
            exact ⟨_, _, _, rfl, .refl _, .inr ⟨rfl, hf (by rw [hcH]; rfl), _, rfl, rfl⟩⟩
        · rw [h2] at s1
          rw [decide_eq_true h1] at hcH
          rw [if_neg (by grind), if_neg (by grind)] at hcB
          rw [hcB, Rat.add_zero] at hS
          conv => whnf
          refine splT (by simp only [decide_eq_true_eq, decide_eq_false_iff_not, Bool.not_eq_true', Bool.not_eq_false', gt_iff_lt, ge_iff_le] <;> omega) ?_
          conv => whnf
          refine ⟨(by (try simp only [true_and, and_true, Nat.sub_zero, Nat.zero_add, Int.toNat_natCast]) <;> omega), ?_⟩
          conv => whnf
          refine ⟨(by (try simp only [true_and, and_true, Nat.sub_zero, Nat.zero_add, Int.toNat_natCast]) <;> omega), ?_⟩
          conv => whnf
          first | refine callF s1 ⟨.refl _, trivial⟩ (by trivial) rfl ?_ | ((repeat (refine ⟨by kernel_rfl, ?_⟩; (conv => whnf))); refine callF s1 ⟨.refl _, trivial⟩ (by trivial) rfl ?_)
          conv => whnf
          refine fit64 (by omega) ?_
          conv => whnf
          refine ⟨_, ?_, _, _, _, rfl, .refl _, i + 1, hik, by rw [hb, hcH]; rfl, rfl, by rw [hS]; rfl, rfl⟩
          omega
        · rw [h2] at s1
          rw [decide_eq_false (show ¬ p.red y i = 0 by grind), decide_eq_false (show ¬ 0 < p.red y i by grind), decide_eq_true h1] at hcH
          rw [if_neg (by grind), if_pos h1] at hcB
          cases hhu : (p.c i).hu with
          | true =>
            rw [hhu] at hcH
            have a1 := sAdd_ok (isR_rat _ zq) (isR_rat _ zm2) (by omega)
            rw [hcB] at hS
            rw [← hS] at a1
            conv => whnf
            refine splT (by simp only [decide_eq_true_eq, decide_eq_false_iff_not, Bool.not_eq_true', Bool.not_eq_false', gt_iff_lt, ge_iff_le] <;> omega) ?_
            conv => whnf
            refine ⟨(by (try simp only [true_and, and_true, Nat.sub_zero, Nat.zero_add, Int.toNat_natCast]) <;> omega), ?_⟩
            conv => whnf
            refine ⟨(by (try simp only [true_and, and_true, Nat.sub_zero, Nat.zero_add, Int.toNat_natCast]) <;> omega), ?_⟩
            conv => whnf
            first | refine callF s1 ⟨.refl _, trivial⟩ (by trivial) rfl ?_ | ((repeat (refine ⟨by kernel_rfl, ?_⟩; (conv => whnf))); refine callF s1 ⟨.refl _, trivial⟩ (by trivial) rfl ?_)
            conv => whnf
            refine splF (show (!(p.c i).hu) = false by rw [hhu]; rfl) ?_
            conv => whnf
            refine ⟨(by (try simp only [true_and, and_true, Nat.sub_zero, Nat.zero_add, Int.toNat_natCast]) <;> omega), ?_⟩
            conv => whnf
            first | refine callF m2 ⟨.refl _, .refl _, trivial⟩ (by trivial) rfl ?_ | ((repeat (refine ⟨by kernel_rfl, ?_⟩; (conv => whnf))); refine callF m2 ⟨.refl _, .refl _, trivial⟩ (by trivial) rfl ?_)
            conv => whnf
            first | refine callF a1 ⟨.refl _, .refl _, trivial⟩ (by trivial) rfl ?_ | ((repeat (refine ⟨by kernel_rfl, ?_⟩; (conv => whnf))); refine callF a1 ⟨.refl _, .refl _, trivial⟩ (by trivial) rfl ?_)
            conv => whnf
            refine ⟨by kernel_rfl, ?_⟩
            conv => whnf
            refine fit64 (by omega) ?_
            conv => whnf
            refine ⟨_, ?_, _, _, _, rfl, .refl _, i + 1, hik, by rw [hb, hcH]; rfl, rfl, rfl, rfl⟩
            omega
          | false =>
            rw [hhu] at hcH
            conv => whnf
            refine splT (by simp only [decide_eq_true_eq, decide_eq_false_iff_not, Bool.not_eq_true', Bool.not_eq_false', gt_iff_lt, ge_iff_le] <;> omega) ?_
            conv => whnf
            refine ⟨(by (try simp only [true_and, and_true, Nat.sub_zero, Nat.zero_add, Int.toNat_natCast]) <;> omega), ?_⟩
            conv => whnf
            refine ⟨(by (try simp only [true_and, and_true, Nat.sub_zero, Nat.zero_add, Int.toNat_natCast]) <;> omega), ?_⟩
            conv => whnf
            first | refine callF s1 ⟨.refl _, trivial⟩ (by trivial) rfl ?_ | ((repeat (refine ⟨by kernel_rfl, ?_⟩; (conv => whnf))); refine callF s1 ⟨.refl _, trivial⟩ (by trivial) rfl ?_)
            conv => whnf
            refine splT (show (!(p.c i).hu) = true by rw [hhu]; rfl) ?_
            conv => whnf
            exact ⟨_, _, _, rfl, .refl _, .inr ⟨rfl, hf (by rw [hcH]; rfl), _, rfl, rfl⟩⟩
      · obtain rfl : i = p.nc := by omega
        conv => whnf
        refine splF (by simp only [decide_eq_true_eq, decide_eq_false_iff_not, Bool.not_eq_true', Bool.not_eq_false', gt_iff_lt, ge_iff_le] <;> omega) ?_
        conv => whnf
        exact ⟨_, _, _, rfl, .refl _, .inl ⟨rfl, by rw [← hB, hall], rfl, rfl⟩⟩
    rintro μ _ _ ⟨i, hi, rfl, rfl, rfl⟩
    by_cases hik : i < p.nr
    · have m1 := sMul_ok (hy.ok i hik).is (hp.ok.r i hik).b.is (by have := hy.s i hik; have := Pr.rsz hik; have := hp.s; unfold Ro.sz at *; omega)
      have zm := ht1 i hik
      have a1 := sAdd_ok (isR_rat _ (hp1 i hi)) (isR_rat _ zm) (by omega)
      have hS : qsum (fun i => (y i).v * (p.r i).b.v) (i + 1) = qsum (fun i => (y i).v * (p.r i).b.v) i + (y i).v * (p.r i).b.v := rfl
      rw [← hS] at a1
      conv => whnf
      refine splT (by simp only [decide_eq_true_eq, decide_eq_false_iff_not, Bool.not_eq_true', Bool.not_eq_false', gt_iff_lt, ge_iff_le] <;> omega) ?_
      conv => whnf
      refine ⟨(by (try simp only [true_and, and_true, Nat.sub_zero, Nat.zero_add, Int.toNat_natCast]) <;> omega), ?_⟩
      conv => whnf
      refine ⟨(by (try simp only [true_and, and_true, Nat.sub_zero, Nat.zero_add, Int.toNat_natCast]) <;> omega), ?_⟩
      conv => whnf
      first | refine callF m1 ⟨.refl _, .refl _, trivial⟩ (by trivial) rfl ?_ | ((repeat (refine ⟨by kernel_rfl, ?_⟩; (conv => whnf))); refine callF m1 ⟨.refl _, .refl _, trivial⟩ (by trivial) rfl ?_)
      conv => whnf
      first | refine callF a1 ⟨.refl _, .refl _, trivial⟩ (by trivial) rfl ?_ | ((repeat (refine ⟨by kernel_rfl, ?_⟩; (conv => whnf))); refine callF a1 ⟨.refl _, .refl _, trivial⟩ (by trivial) rfl ?_)
      conv => whnf
      refine ⟨by kernel_rfl, ?_⟩
      conv => whnf
      refine fit64 (by omega) ?_
      conv => whnf
      refine ⟨_, ?_, _, _, _, rfl, .refl _, i + 1, hik, rfl, rfl, rfl⟩
      omega
    · obtain rfl : i = p.nr := by omega
      rw [← hY]
      conv => whnf
      refine splF (by simp only [decide_eq_true_eq, decide_eq_false_iff_not, Bool.not_eq_true', Bool.not_eq_false', gt_iff_lt, ge_iff_le] <;> omega) ?_
      conv => whnf
      exact ⟨_, _, _, rfl, .refl _, rfl, rfl, rfl⟩
end Go.Abs

/- Comparing answers with the reference's: points and multipliers. -/
set_option autoImplicit false
set_option maxHeartbeats 4000000
set_option maxRecDepth 10000
set_option linter.unusedVariables false
set_option linter.unusedSimpArgs false
namespace Go.Abs
open Go Go.Proofs

theorem XH.le {x : Nat → RR} {n m : Nat} (h : XH x n) (hm : m ≤ n) : XH x m :=
  ⟨fun j hj => h.ok j (by omega), fun j hj => h.s j (by omega), Nat.le_trans (nsum_le hm) h.t, Nat.le_trans hm h.n⟩
theorem sSame_ok (f : Nat → Rat) (n : Nat) (hz : ∀ j, j < n → rsz (f j) ≤ 4398046500000) (hn : n ≤ 1099511627776) : ACall Tryz.prog 49 [ratsRes f n, ratsRes f n] (.f (.bool true)) := by
  refine acall_rule env [0, 1, 4, 5, 10, 14, 42] Tryz.func49 rfl rfl rfl rfl ?_
  conv => whnf
  refine splF (by simp) ?_
  conv => whnf
  refine loop_mod [0, 1, 4, 5] [] [4] []
    (fun μ fr hp_ => ∃ i : Nat, i ≤ n ∧ fr = [(0, ratsRes f n), (1, ratsRes f n), (4, .f (.bool false)), (5, .f (.int .i64 i))] ∧ hp_ = [] ∧ μ = n - i)
    (fun x fr hp_ => x = .exit 0 ∧ fr = [(4, .f (.bool false))] ∧ hp_ = [])
    ⟨_, _, _, _, rfl, .refl _, 0, Nat.zero_le _, rfl, rfl, rfl⟩ ?_ ?_
  · rintro _ _ _ ⟨rfl, rfl, rfl⟩
    conv => whnf
    (repeat (refine ⟨by kernel_rfl, ?_⟩; (conv => whnf)))
    refine ⟨(by (try simp only [true_and, and_true, Nat.sub_zero, Nat.zero_add, Int.toNat_natCast]) <;> omega), ?_⟩
    exact .refl _
  rintro μ _ _ ⟨i, hi, rfl, rfl, rfl⟩
  by_cases hik : i < n
  · have c1 := sCanonical_rat (f i) (hz i hik)
    have c2 := sEqual_same (f i) (hz i hik)
    rw [← RR.of_a] at c1 c2
    conv => whnf
    refine splT (by simp only [decide_eq_true_eq, decide_eq_false_iff_not, Bool.not_eq_true', Bool.not_eq_false', gt_iff_lt, ge_iff_le] <;> omega) ?_
    conv => whnf
    refine ⟨(by (try simp only [true_and, and_true, Nat.sub_zero, Nat.zero_add, Int.toNat_natCast]) <;> omega), ?_⟩
    conv => whnf
    first | refine callF c1 ⟨.refl _, trivial⟩ (by trivial) rfl ?_ | ((repeat (refine ⟨by kernel_rfl, ?_⟩; (conv => whnf))); refine callF c1 ⟨.refl _, trivial⟩ (by trivial) rfl ?_)
    conv => whnf
    refine ⟨(by (try simp only [true_and, and_true, Nat.sub_zero, Nat.zero_add, Int.toNat_natCast]) <;> omega), ?_⟩
    conv => whnf
    first | refine callF c1 ⟨.refl _, trivial⟩ (by trivial) rfl ?_ | ((repeat (refine ⟨by kernel_rfl, ?_⟩; (conv => whnf))); refine callF c1 ⟨.refl _, trivial⟩ (by trivial) rfl ?_)
    conv => whnf
    refine ⟨(by (try simp only [true_and, and_true, Nat.sub_zero, Nat.zero_add, Int.toNat_natCast]) <;> omega), ?_⟩
    conv => whnf
    refine ⟨(by (try simp only [true_and, and_true, Nat.sub_zero, Nat.zero_add, Int.toNat_natCast]) <;> omega), ?_⟩
    conv => whnf
    first | refine callF c2 ⟨.refl _, .refl _, trivial⟩ (by trivial) rfl ?_ | ((repeat (refine ⟨by kernel_rfl, ?_⟩; (conv => whnf))); refine callF c2 ⟨.refl _, .refl _, trivial⟩ (by trivial) rfl ?_)
    conv => whnf
    refine ⟨by kernel_rfl, ?_⟩
    conv => whnf
    refine fit64 (by omega) ?_
    conv => whnf
    refine ⟨_, ?_, _, _, _, rfl, .refl _, i + 1, hik, rfl, rfl, rfl⟩
    omega
  · obtain rfl : i = n := by omega
    conv => whnf
    refine splF (by simp only [decide_eq_true_eq, decide_eq_false_iff_not, Bool.not_eq_true', Bool.not_eq_false', gt_iff_lt, ge_iff_le] <;> omega) ?_
    conv => whnf
    exact ⟨_, _, _, rfl, .refl _, rfl, rfl, rfl⟩
theorem hEqual_ok (g : Nat → Int) (n : Nat) (hn : n ≤ 1099511627776) : ACall Tryz.prog 70 [nums g n, nums g n] (.f (.bool true)) := by
  refine acall_rule env [0, 1, 4, 5, 10, 14, 25] Tryz.func70 rfl rfl rfl rfl ?_
  conv => whnf
  refine splF (by simp) ?_
  conv => whnf
  refine loop_mod [0, 1, 4, 5] [] [4] []
    (fun μ fr hp_ => ∃ i : Nat, i ≤ n ∧ fr = [(0, nums g n), (1, nums g n), (4, .f (.bool false)), (5, .f (.int .i64 i))] ∧ hp_ = [] ∧ μ = n - i)
    (fun x fr hp_ => x = .exit 0 ∧ fr = [(4, .f (.bool false))] ∧ hp_ = [])
    ⟨_, _, _, _, rfl, .refl _, 0, Nat.zero_le _, rfl, rfl, rfl⟩ ?_ ?_
  · rintro _ _ _ ⟨rfl, rfl, rfl⟩
    conv => whnf
    (repeat (refine ⟨by kernel_rfl, ?_⟩; (conv => whnf)))
    refine ⟨(by (try simp only [true_and, and_true, Nat.sub_zero, Nat.zero_add, Int.toNat_natCast]) <;> omega), ?_⟩
    exact .refl _
  rintro μ _ _ ⟨i, hi, rfl, rfl, rfl⟩
  by_cases hik : i < n
  · conv => whnf
    refine splT (by simp only [decide_eq_true_eq, decide_eq_false_iff_not, Bool.not_eq_true', Bool.not_eq_false', gt_iff_lt, ge_iff_le] <;> omega) ?_
    conv => whnf
    refine ⟨(by (try simp only [true_and, and_true, Nat.sub_zero, Nat.zero_add, Int.toNat_natCast]) <;> omega), ?_⟩
    conv => whnf
    refine ⟨(by (try simp only [true_and, and_true, Nat.sub_zero, Nat.zero_add, Int.toNat_natCast]) <;> omega), ?_⟩
    conv => whnf
    refine ⟨by kernel_rfl, ?_⟩
    conv => whnf
    refine splF (by simp) ?_
    conv => whnf
    refine fit64 (by omega) ?_
    conv => whnf
    refine ⟨_, ?_, _, _, _, rfl, .refl _, i + 1, hik, rfl, rfl, rfl⟩
    omega
  · obtain rfl : i = n := by omega
    conv => whnf
    refine splF (by simp only [decide_eq_true_eq, decide_eq_false_iff_not, Bool.not_eq_true', Bool.not_eq_false', gt_iff_lt, ge_iff_le] <;> omega) ?_
    conv => whnf
    exact ⟨_, _, _, rfl, .refl _, rfl, rfl, rfl⟩
theorem hFirst_ok (x : Nat → RR) (n k : Nat) (hn : n ≤ 1099511627776) (hk : k ≤ 1099511627776) : ACall Tryz.prog 15 [rats x n, .f (.int .i64 k)] (rats x (min n k)) := by
  by_cases h : k < n
  · rw [Nat.min_eq_right (by omega)]
    refine acall_rule env [0, 1, 4, 8] Tryz.func15 rfl rfl rfl rfl ?_
    conv => whnf
    refine splT (by simp; omega) ?_
    conv => whnf
    refine ⟨(by (try simp only [true_and, and_true, Nat.sub_zero, Nat.zero_add, Int.toNat_natCast]) <;> omega), ?_⟩
    conv => whnf
    (repeat (refine ⟨by kernel_rfl, ?_⟩; (conv => whnf)))
    refine ⟨(by (try simp only [true_and, and_true, Nat.sub_zero, Nat.zero_add, Int.toNat_natCast]) <;> omega), ?_⟩
    exact .refl _
  · rw [Nat.min_eq_left (by omega)]
    refine acall_rule env [0, 1, 4, 8] Tryz.func15 rfl rfl rfl rfl ?_
    conv => whnf
    refine splF (by simp; omega) ?_
    conv => whnf
    (repeat (refine ⟨by kernel_rfl, ?_⟩; (conv => whnf)))
    refine ⟨(by (try simp only [true_and, and_true, Nat.sub_zero, Nat.zero_add, Int.toNat_natCast]) <;> omega), ?_⟩
    exact .refl _
def smallB (p : Pr) : Bool := decide (p.nc ≤ 12) && decide (p.nr ≤ 12) && allB (fun i => decide ((p.r i).k ≤ 24)) p.nr
theorem lawSmall_ok {p : Pr} (hp : p.H) : ACall Tryz.prog 13 [p.a] (.f (.bool (smallB p))) := by
  have h1 := hp.c
  have h2 := hp.r
  have h3 := hp.k
  unfold smallB
  by_cases a1 : p.nc ≤ 12
  · by_cases a2 : p.nr ≤ 12
    · rw [decide_eq_true a1, decide_eq_true a2, Bool.true_and, Bool.true_and]
      obtain ⟨B, hB⟩ : ∃ B, allB (fun i => decide ((p.r i).k ≤ 24)) p.nr = B := ⟨_, rfl⟩
      rw [hB]
      refine acall_rule env [0, 1, 2, 3, 13, 18, 28] Tryz.func13 rfl rfl rfl rfl ?_
      conv => whnf
      refine splF (by simp; omega) ?_
      conv => whnf
      refine splF (by simp; omega) ?_
      conv => whnf
      refine loop_mod [1, 2, 3] [1] [2] []
        (fun μ fr hp_ => ∃ i : Nat, i ≤ p.nr ∧ allB (fun i => decide ((p.r i).k ≤ 24)) i = true ∧ fr = [bpk 1 2, (2, .f (.bool false)), (3, .f (.int .i64 i))] ∧ hp_ = [bxk 1 [.f (.sl 11 (fun j => (p.c j).c) p.nc none), .f (.sl 5 (fun i => (p.r i).c) p.nr none)]] ∧ μ = p.nr - i)
        (fun x fr hp_ => (x = .exit 0 ∧ B = true ∧ fr = [(2, .f (.bool false))] ∧ hp_ = []) ∨ (x = .ret ∧ B = false ∧ fr = [(2, .f (.bool false))] ∧ hp_ = []))
        ⟨_, _, _, _, rfl, .refl _, 0, Nat.zero_le _, rfl, rfl, rfl, rfl⟩ ?_ ?_
      · rintro _ _ _ (⟨rfl, rfl, rfl, rfl⟩ | ⟨rfl, rfl, rfl, rfl⟩)
        · conv => whnf
          (repeat (refine ⟨by kernel_rfl, ?_⟩; (conv => whnf)))
          refine ⟨(by (try simp only [true_and, and_true, Nat.sub_zero, Nat.zero_add, Int.toNat_natCast]) <;> omega), ?_⟩
          exact .refl _
        · conv => whnf
          (repeat (refine ⟨by kernel_rfl, ?_⟩; (conv => whnf)))
          refine ⟨(by (try simp only [true_and, and_true, Nat.sub_zero, Nat.zero_add, Int.toNat_natCast]) <;> omega), ?_⟩
          exact .refl _
      rintro μ _ _ ⟨i, hi, hall, rfl, rfl, rfl⟩
      by_cases hik : i < p.nr
      · have hf : decide ((p.r i).k ≤ 24) = false → B = false := fun h => hB.symm.trans (allB_false hik h)
        have hb : allB (fun i => decide ((p.r i).k ≤ 24)) (i + 1) = decide ((p.r i).k ≤ 24) := by rw [allB, hall, Bool.true_and]
        have hki := h3 i hik
        by_cases hv : (p.r i).k ≤ 24
        · conv => whnf
          refine splT (by simp only [decide_eq_true_eq, decide_eq_false_iff_not, Bool.not_eq_true', Bool.not_eq_false', gt_iff_lt, ge_iff_le] <;> omega) ?_
          conv => whnf
          refine ⟨(by (try simp only [true_and, and_true, Nat.sub_zero, Nat.zero_add, Int.toNat_natCast]) <;> omega), ?_⟩
          conv => whnf
          refine splF (show decide (((p.r i).k : Int) > 24) = false from decide_eq_false (by omega)) ?_
          conv => whnf
          refine fit64 (by omega) ?_
          conv => whnf
          refine ⟨_, ?_, _, _, _, rfl, .refl _, i + 1, hik, by rw [hb, decide_eq_true hv], rfl, rfl, rfl⟩
          omega
        · conv => whnf
          refine splT (by simp only [decide_eq_true_eq, decide_eq_false_iff_not, Bool.not_eq_true', Bool.not_eq_false', gt_iff_lt, ge_iff_le] <;> omega) ?_
          conv => whnf
          refine ⟨(by (try simp only [true_and, and_true, Nat.sub_zero, Nat.zero_add, Int.toNat_natCast]) <;> omega), ?_⟩
          conv => whnf
          refine splT (show decide (((p.r i).k : Int) > 24) = true from decide_eq_true (by omega)) ?_
          conv => whnf
          exact ⟨_, _, _, rfl, .refl _, .inr ⟨rfl, hf (decide_eq_false hv), rfl, rfl⟩⟩
      · obtain rfl : i = p.nr := by omega
        conv => whnf
        refine splF (by simp only [decide_eq_true_eq, decide_eq_false_iff_not, Bool.not_eq_true', Bool.not_eq_false', gt_iff_lt, ge_iff_le] <;> omega) ?_
        conv => whnf
        exact ⟨_, _, _, rfl, .refl _, .inl ⟨rfl, by rw [← hB, hall], rfl, rfl⟩⟩
    · rw [decide_eq_false a2, Bool.and_false, Bool.false_and]
      refine acall_rule env [0, 1, 2, 3, 13, 18, 28] Tryz.func13 rfl rfl rfl rfl ?_
      conv => whnf
      refine splF (by simp; omega) ?_
      conv => whnf
      refine splT (by simp; omega) ?_
      conv => whnf
      (repeat (refine ⟨by kernel_rfl, ?_⟩; (conv => whnf)))
      refine ⟨(by (try simp only [true_and, and_true, Nat.sub_zero, Nat.zero_add, Int.toNat_natCast]) <;> omega), ?_⟩
      exact .refl _
  · rw [decide_eq_false a1, Bool.false_and, Bool.false_and]
    refine acall_rule env [0, 1, 2, 3, 13, 18, 28] Tryz.func13 rfl rfl rfl rfl ?_
    conv => whnf
    refine splT (by simp; omega) ?_
    conv => whnf
    (repeat (refine ⟨by kernel_rfl, ?_⟩; (conv => whnf)))
    refine ⟨(by (try simp only [true_and, and_true, Nat.sub_zero, Nat.zero_add, Int.toNat_natCast]) <;> omega), ?_⟩
    exact .refl _
/-- a program that is not sound, or a point that has not its length -/
theorem lawPoints_bad {p : Pr} (hp : p.H) {x : Nat → RR} {n : Nat} (hx : XH x n) (he : p.errS n p.nc ≠ 0) : ACall Tryz.prog 29 [p.a, rats x n] (.f (.bool true)) := by
  have v1 := ref11Valid_ok hp
  have v2 := lpValid_ok hp.ok (by have := hp.s; omega) (fun i hi => by have := hp.k i hi; omega) (by have := hp.c; have := hp.r; omega)
  have o1 := lpObjective_ok hp hx
  have a1 := lpActivities_ok hp hx
  have w1 := lpViolated_ok hp hx
  have f1 := lpFeasible_ok hp hx
  have f2 := refFeasible_ok hp hx
  rw [objRes, if_pos he] at o1
  rw [actRes, if_pos he] at a1
  rw [vioRes, if_pos he] at w1
  have hf : p.feas x n = false := by unfold Pr.feas; rw [decide_eq_false he]; rfl
  rw [hf] at f1 f2
  have hpc := hp.c
  have hpn := hx.n
  by_cases h0 : p.err = 0
  · have hn : n ≠ p.nc := fun h => he (Pr.errS_zero.2 ⟨h0, h⟩)
    have hE : p.errS n p.nc = 4 := by unfold Pr.errS; rw [if_neg (by simp [h0]), if_neg hn]
    rw [hE] at o1 a1 w1
    rw [h0] at v1 v2
    refine acall_rule env [0, 1, 2, 4, 5, 6, 7, 8, 9, 10, 11, 12, 13, 14, 15, 16, 28, 76, 78, 109] Tryz.func29 rfl rfl rfl rfl ?_
    conv => whnf
    first | refine callF v1 ⟨.refl _, trivial⟩ (by trivial) rfl ?_ | ((repeat (refine ⟨by kernel_rfl, ?_⟩; (conv => whnf))); refine callF v1 ⟨.refl _, trivial⟩ (by trivial) rfl ?_)
    conv => whnf
    refine splT (by simp; omega) ?_
    conv => whnf
    first | refine callF o1 ⟨.refl _, .refl _, trivial⟩ (by trivial) rfl ?_ | ((repeat (refine ⟨by kernel_rfl, ?_⟩; (conv => whnf))); refine callF o1 ⟨.refl _, .refl _, trivial⟩ (by trivial) rfl ?_)
    conv => whnf
    first | refine callF a1 ⟨.refl _, .refl _, trivial⟩ (by trivial) rfl ?_ | ((repeat (refine ⟨by kernel_rfl, ?_⟩; (conv => whnf))); refine callF a1 ⟨.refl _, .refl _, trivial⟩ (by trivial) rfl ?_)
    conv => whnf
    first | refine callF w1 ⟨.refl _, .refl _, trivial⟩ (by trivial) rfl ?_ | ((repeat (refine ⟨by kernel_rfl, ?_⟩; (conv => whnf))); refine callF w1 ⟨.refl _, .refl _, trivial⟩ (by trivial) rfl ?_)
    conv => whnf
    first | refine callF f1 ⟨.refl _, .refl _, trivial⟩ (by trivial) rfl ?_ | ((repeat (refine ⟨by kernel_rfl, ?_⟩; (conv => whnf))); refine callF f1 ⟨.refl _, .refl _, trivial⟩ (by trivial) rfl ?_)
    conv => whnf
    first | refine callF f2 ⟨.refl _, .refl _, trivial⟩ (by trivial) rfl ?_ | ((repeat (refine ⟨by kernel_rfl, ?_⟩; (conv => whnf))); refine callF f2 ⟨.refl _, .refl _, trivial⟩ (by trivial) rfl ?_)
    conv => whnf
    first | refine callF v2 ⟨.refl _, trivial⟩ (by trivial) rfl ?_ | ((repeat (refine ⟨by kernel_rfl, ?_⟩; (conv => whnf))); refine callF v2 ⟨.refl _, trivial⟩ (by trivial) rfl ?_)
    conv => whnf
    first | refine callF v1 ⟨.refl _, trivial⟩ (by trivial) rfl ?_ | ((repeat (refine ⟨by kernel_rfl, ?_⟩; (conv => whnf))); refine callF v1 ⟨.refl _, trivial⟩ (by trivial) rfl ?_)
    conv => whnf
    refine ⟨by kernel_rfl, ?_⟩
    conv => whnf
    (repeat (refine ⟨by kernel_rfl, ?_⟩; (conv => whnf)))
    refine ⟨(by (try simp only [true_and, and_true, Nat.sub_zero, Nat.zero_add, Int.toNat_natCast]) <;> omega), ?_⟩
    exact .refl _
  · have hE : p.errS n p.nc = p.err := by unfold Pr.errS; rw [if_pos (by simp [h0])]
    rw [hE] at o1 a1 w1
    generalize p.err = E at *
    refine acall_rule env [0, 1, 2, 4, 5, 6, 7, 8, 9, 10, 11, 12, 13, 14, 15, 16, 28, 76, 78, 109] Tryz.func29 rfl rfl rfl rfl ?_
    conv => whnf
    first | refine callF v1 ⟨.refl _, trivial⟩ (by trivial) rfl ?_ | ((repeat (refine ⟨by kernel_rfl, ?_⟩; (conv => whnf))); refine callF v1 ⟨.refl _, trivial⟩ (by trivial) rfl ?_)
    conv => whnf
    refine splF (by simp [h0]) ?_
    conv => whnf
    first | refine callF o1 ⟨.refl _, .refl _, trivial⟩ (by trivial) rfl ?_ | ((repeat (refine ⟨by kernel_rfl, ?_⟩; (conv => whnf))); refine callF o1 ⟨.refl _, .refl _, trivial⟩ (by trivial) rfl ?_)
    conv => whnf
    first | refine callF a1 ⟨.refl _, .refl _, trivial⟩ (by trivial) rfl ?_ | ((repeat (refine ⟨by kernel_rfl, ?_⟩; (conv => whnf))); refine callF a1 ⟨.refl _, .refl _, trivial⟩ (by trivial) rfl ?_)
    conv => whnf
    first | refine callF w1 ⟨.refl _, .refl _, trivial⟩ (by trivial) rfl ?_ | ((repeat (refine ⟨by kernel_rfl, ?_⟩; (conv => whnf))); refine callF w1 ⟨.refl _, .refl _, trivial⟩ (by trivial) rfl ?_)
    conv => whnf
    refine splF (by simp) ?_
    conv => whnf
    refine splF (by simp) ?_
    conv => whnf
    refine splF (by simp) ?_
    conv => whnf
    first | refine callF f1 ⟨.refl _, .refl _, trivial⟩ (by trivial) rfl ?_ | ((repeat (refine ⟨by kernel_rfl, ?_⟩; (conv => whnf))); refine callF f1 ⟨.refl _, .refl _, trivial⟩ (by trivial) rfl ?_)
    conv => whnf
    first | refine callF f2 ⟨.refl _, .refl _, trivial⟩ (by trivial) rfl ?_ | ((repeat (refine ⟨by kernel_rfl, ?_⟩; (conv => whnf))); refine callF f2 ⟨.refl _, .refl _, trivial⟩ (by trivial) rfl ?_)
    conv => whnf
    first | refine callF v2 ⟨.refl _, trivial⟩ (by trivial) rfl ?_ | ((repeat (refine ⟨by kernel_rfl, ?_⟩; (conv => whnf))); refine callF v2 ⟨.refl _, trivial⟩ (by trivial) rfl ?_)
    conv => whnf
    first | refine callF v1 ⟨.refl _, trivial⟩ (by trivial) rfl ?_ | ((repeat (refine ⟨by kernel_rfl, ?_⟩; (conv => whnf))); refine callF v1 ⟨.refl _, trivial⟩ (by trivial) rfl ?_)
    conv => whnf
    refine ⟨by kernel_rfl, ?_⟩
    conv => whnf
    refine splF (by simp) ?_
    conv => whnf
    refine splT (by simp [h0]) ?_
    conv => whnf
    (repeat (refine ⟨by kernel_rfl, ?_⟩; (conv => whnf)))
    refine ⟨(by (try simp only [true_and, and_true, Nat.sub_zero, Nat.zero_add, Int.toNat_natCast]) <;> omega), ?_⟩
    exact .refl _
theorem lawPoints_ok {p : Pr} (hp : p.H) {x : Nat → RR} {n : Nat} (hx : XH x n) : ACall Tryz.prog 29 [p.a, rats x n] (.f (.bool true)) := by
  by_cases he : p.errS n p.nc = 0
  · have v1 := ref11Valid_ok hp
    have v2 := lpValid_ok hp.ok (by have := hp.s; omega) (fun i hi => by have := hp.k i hi; omega) (by have := hp.c; have := hp.r; omega)
    have o1 := lpObjective_ok hp hx
    have a1 := lpActivities_ok hp hx
    have w1 := lpViolated_ok hp hx
    have f1 := lpFeasible_ok hp hx
    have f2 := refFeasible_ok hp hx
    have o2 := refObjective_ok hp hx he
    have w2 := refViolated_ok hp hx he
    obtain ⟨e1, e2⟩ := Pr.errS_zero.1 he
    obtain ⟨b1, b2, _, _⟩ := Pr.err_facts e1
    have hoz := obj_sz hp hx e1 e2
    rw [objRes, if_neg (fun h => h he)] at o1
    rw [actRes, if_neg (fun h => h he)] at a1
    rw [vioRes, if_neg (fun h => h he)] at w1
    unfold rvioRes at w2
    rw [e1] at v1 v2
    subst e2
    have ac := fun i (hi : i < p.nr) => refActivity_ok (hp.row e1 hi) hx
    have acz := fun i (hi : i < p.nr) => act_sz (hp.row e1 hi) hx
    have q1 := sEqual_same (p.obj x) (by omega)
    have q2 := sSame_ok (fun i => (p.r i).act x) p.nr (fun i hi => Nat.le_trans (acz i hi) (by omega)) (by omega)
    have q3 := hEqual_ok (nth (p.cv x) p.nc) (cnt (p.cv x) p.nc) (by have := cnt_le (p.cv x) p.nc; omega)
    have q4 := hEqual_ok (nth (p.rv x) p.nr) (cnt (p.rv x) p.nr) (by have := cnt_le (p.rv x) p.nr; omega)
    generalize p.feas x p.nc = F at *
    generalize p.obj x = O at *
    generalize nth (p.cv x) p.nc = g1 at *
    generalize cnt (p.cv x) p.nc = k1 at *
    generalize nth (p.rv x) p.nr = g2 at *
    generalize cnt (p.rv x) p.nr = k2 at *
    refine acall_rule env [0, 1, 2, 4, 5, 6, 7, 8, 9, 10, 11, 12, 13, 14, 15, 16, 28, 76, 78, 109] Tryz.func29 rfl rfl rfl rfl ?_
    conv => whnf
    first | refine callF v1 ⟨.refl _, trivial⟩ (by trivial) rfl ?_ | ((repeat (refine ⟨by kernel_rfl, ?_⟩; (conv => whnf))); refine callF v1 ⟨.refl _, trivial⟩ (by trivial) rfl ?_)
    conv => whnf
    refine splF (by simp) ?_
    conv => whnf
    first | refine callF o1 ⟨.refl _, .refl _, trivial⟩ (by trivial) rfl ?_ | ((repeat (refine ⟨by kernel_rfl, ?_⟩; (conv => whnf))); refine callF o1 ⟨.refl _, .refl _, trivial⟩ (by trivial) rfl ?_)
    conv => whnf
    first | refine callF a1 ⟨.refl _, .refl _, trivial⟩ (by trivial) rfl ?_ | ((repeat (refine ⟨by kernel_rfl, ?_⟩; (conv => whnf))); refine callF a1 ⟨.refl _, .refl _, trivial⟩ (by trivial) rfl ?_)
    conv => whnf
    first | refine callF w1 ⟨.refl _, .refl _, trivial⟩ (by trivial) rfl ?_ | ((repeat (refine ⟨by kernel_rfl, ?_⟩; (conv => whnf))); refine callF w1 ⟨.refl _, .refl _, trivial⟩ (by trivial) rfl ?_)
    conv => whnf
    first | refine callF f1 ⟨.refl _, .refl _, trivial⟩ (by trivial) rfl ?_ | ((repeat (refine ⟨by kernel_rfl, ?_⟩; (conv => whnf))); refine callF f1 ⟨.refl _, .refl _, trivial⟩ (by trivial) rfl ?_)
    conv => whnf
    first | refine callF f2 ⟨.refl _, .refl _, trivial⟩ (by trivial) rfl ?_ | ((repeat (refine ⟨by kernel_rfl, ?_⟩; (conv => whnf))); refine callF f2 ⟨.refl _, .refl _, trivial⟩ (by trivial) rfl ?_)
    conv => whnf
    refine splF (by simp) ?_
    conv => whnf
    first | refine callF v2 ⟨.refl _, trivial⟩ (by trivial) rfl ?_ | ((repeat (refine ⟨by kernel_rfl, ?_⟩; (conv => whnf))); refine callF v2 ⟨.refl _, trivial⟩ (by trivial) rfl ?_)
    conv => whnf
    first | refine callF v1 ⟨.refl _, trivial⟩ (by trivial) rfl ?_ | ((repeat (refine ⟨by kernel_rfl, ?_⟩; (conv => whnf))); refine callF v1 ⟨.refl _, trivial⟩ (by trivial) rfl ?_)
    conv => whnf
    refine ⟨by kernel_rfl, ?_⟩
    conv => whnf
    refine .weak (nil_weak 13 121 3 (by decide) rfl rfl) ?_
    refine loop_mod [1, 2, 4, 6, 8, 10, 11, 13, 14] [2, 6, 121] [1, 2, 4, 6, 8, 10, 11, 13] [2, 6, 121]
      (fun μ fr hp_ => ∃ i : Nat, i ≤ p.nr ∧ fr = [(1, rats x p.nc), bpk 2 2, (4, .f (.bool false)), bp3 6, (8, ratsRes (fun i => (p.r i).act x) p.nr), (10, nums g1 k1), (11, nums g2 k2), (13, .lsl 121 1 3 0 i none), (14, .f (.int .i64 i))] ∧
        hp_ = [bxk 2 [.f (.sl 11 (fun j => (p.c j).c) p.nc none), .f (.sl 5 (fun i => (p.r i).c) p.nr none)], bx3 6 (ratL O), (121, 1, .fa 3 i (fun j => (RR.of ((p.r j).act x)).c))] ∧ μ = p.nr - i)
      (fun e fr hp_ => e = .exit 0 ∧ fr = [(1, rats x p.nc), bpk 2 2, (4, .f (.bool false)), bp3 6, (8, ratsRes (fun i => (p.r i).act x) p.nr), (10, nums g1 k1), (11, nums g2 k2), (13, .lsl 121 1 3 0 p.nr none)] ∧
        hp_ = [bxk 2 [.f (.sl 11 (fun j => (p.c j).c) p.nc none), .f (.sl 5 (fun i => (p.r i).c) p.nr none)], bx3 6 (ratL O), (121, 1, .fa 3 p.nr (fun j => (RR.of ((p.r j).act x)).c))])
      ⟨_, _, _, _, rfl, ?_, 0, Nat.zero_le _, rfl, rfl, rfl⟩ ?_ ?_
    · exact ⟨⟨rfl, rfl⟩, .refl _, ⟨rfl, rfl⟩, .refl _, ⟨rfl, rfl⟩, .fa fun j hj => absurd hj (Nat.not_lt_zero _), trivial⟩
    · rintro _ _ _ ⟨rfl, rfl, rfl⟩
      conv => whnf
      first | refine callF w2 ⟨.refl _, .refl _, trivial⟩ (by trivial) rfl ?_ | ((repeat (refine ⟨by kernel_rfl, ?_⟩; (conv => whnf))); refine callF w2 ⟨.refl _, .refl _, trivial⟩ (by trivial) rfl ?_)
      conv => whnf
      first | refine callF o2 ⟨.refl _, .refl _, trivial⟩ (by trivial) rfl ?_ | ((repeat (refine ⟨by kernel_rfl, ?_⟩; (conv => whnf))); refine callF o2 ⟨.refl _, .refl _, trivial⟩ (by trivial) rfl ?_)
      conv => whnf
      first | refine callF q1 ⟨.refl _, .refl _, trivial⟩ (by trivial) rfl ?_ | ((repeat (refine ⟨by kernel_rfl, ?_⟩; (conv => whnf))); refine callF q1 ⟨.refl _, .refl _, trivial⟩ (by trivial) rfl ?_)
      conv => whnf
      refine callF q2 ⟨.refl _, .f (.sl (fun j hj => by simp only [Nat.zero_add]; exact .fle_rr _) (.inl rfl)), trivial⟩ (by simp) rfl ?_
      conv => whnf
      first | refine callF q3 ⟨.refl _, .refl _, trivial⟩ (by trivial) rfl ?_ | ((repeat (refine ⟨by kernel_rfl, ?_⟩; (conv => whnf))); refine callF q3 ⟨.refl _, .refl _, trivial⟩ (by trivial) rfl ?_)
      conv => whnf
      first | refine callF q4 ⟨.refl _, .refl _, trivial⟩ (by trivial) rfl ?_ | ((repeat (refine ⟨by kernel_rfl, ?_⟩; (conv => whnf))); refine callF q4 ⟨.refl _, .refl _, trivial⟩ (by trivial) rfl ?_)
      conv => whnf
      refine ⟨by kernel_rfl, ?_⟩
      conv => whnf
      (repeat (refine ⟨by kernel_rfl, ?_⟩; (conv => whnf)))
      refine ⟨(by (try simp only [true_and, and_true, Nat.sub_zero, Nat.zero_add, Int.toNat_natCast]) <;> omega), ?_⟩
      exact .refl _
    rintro μ _ _ ⟨i, hi, rfl, rfl, rfl⟩
    by_cases hik : i < p.nr
    · have a2 := ac i hik
      conv => whnf
      refine splT (by simp only [decide_eq_true_eq, decide_eq_false_iff_not, Bool.not_eq_true', Bool.not_eq_false', gt_iff_lt, ge_iff_le] <;> omega) ?_
      conv => whnf
      refine ⟨(by (try simp only [true_and, and_true, Nat.sub_zero, Nat.zero_add, Int.toNat_natCast]) <;> omega), ?_⟩
      conv => whnf
      first | refine callF a2 ⟨.refl _, .refl _, trivial⟩ (by trivial) rfl ?_ | ((repeat (refine ⟨by kernel_rfl, ?_⟩; (conv => whnf))); refine callF a2 ⟨.refl _, .refl _, trivial⟩ (by trivial) rfl ?_)
      conv => whnf
      refine ⟨⟨(show 1 ≤ 3 / 3 - 0 by decide), by omega, by omega, (show (i + 1) * 56 ≤ 140737488355328 by omega)⟩, ?_⟩
      conv => whnf
      refine fit64 (by omega) ?_
      conv => whnf
      refine ⟨_, ?_, _, _, [bxk 2 [.f (.sl 11 (fun j => (p.c j).c) p.nc none), .f (.sl 5 (fun i => (p.r i).c) p.nr none)], bx3 6 (ratL O), (121, 1, .fa 3 (i + 1) (fun j => (RR.of ((p.r j).act x)).c))], rfl, ⟨⟨rfl, rfl⟩, .refl _, ⟨rfl, rfl⟩, .refl _, ⟨rfl, rfl⟩, .fa fun j hj => more_rr (f := fun j => RR.of ((p.r j).act x)) hj rfl, trivial⟩, i + 1, hik, rfl, rfl, rfl⟩
      omega
    · obtain rfl : i = p.nr := by omega
      conv => whnf
      refine splF (by simp only [decide_eq_true_eq, decide_eq_false_iff_not, Bool.not_eq_true', Bool.not_eq_false', gt_iff_lt, ge_iff_le] <;> omega) ?_
      conv => whnf
      exact ⟨_, _, _, rfl, .refl _, rfl, rfl, rfl⟩
  · exact lawPoints_bad hp hx he
theorem lawMult_ok {p : Pr} (hp : p.H) {y : Nat → RR} {n : Nat} (hy : XH y n) : ACall Tryz.prog 14 [p.a, rats y n] (.f (.bool true)) := by
  have v1 := ref11Valid_ok hp
  have d1 := lpReduced_ok hp hy
  have b1 := lpBound_ok hp hy
  have b2 := refBound_ok hp hy
  have s1 := lpSigned_ok hp hy
  have s2 := refSigned_ok hp hy
  have hpc := hp.c
  have hpr := hp.r
  have hpn := hy.n
  by_cases he : p.errS n p.nr = 0
  · have d2 := refReduced_ok hp hy he
    obtain ⟨e1, e2⟩ := Pr.errS_zero.1 he
    obtain ⟨r1, r2, _, _⟩ := Pr.err_facts e1
    have hbz := bnd_sz hp hy
    rw [redRes, if_neg (fun h => h he)] at d1
    rw [e1] at v1
    subst e2
    have q2 := sSame_ok (p.red y) p.nc (fun j hj => Nat.le_trans (red_sz hp hy r2 hj p.nr (Nat.le_refl _)) (by omega)) (by omega)
    unfold bndRes at b1 b2
    generalize p.sgnd y p.nr = S at *
    cases hB : p.bndOk y p.nr with
    | true =>
      rw [hB, if_pos rfl] at b1 b2
      have q1 := sEqual_same (p.bnd y) (Nat.le_trans (hbz hB) (by omega))
      generalize p.bnd y = O at *
      refine acall_rule env [0, 1, 2, 4, 5, 6, 7, 8, 9, 10, 11, 23, 64] Tryz.func14 rfl rfl rfl rfl ?_
      conv => whnf
      first | refine callF v1 ⟨.refl _, trivial⟩ (by trivial) rfl ?_ | ((repeat (refine ⟨by kernel_rfl, ?_⟩; (conv => whnf))); refine callF v1 ⟨.refl _, trivial⟩ (by trivial) rfl ?_)
      conv => whnf
      refine splF (by simp) ?_
      conv => whnf
      first | refine callF d1 ⟨.refl _, .refl _, trivial⟩ (by trivial) rfl ?_ | ((repeat (refine ⟨by kernel_rfl, ?_⟩; (conv => whnf))); refine callF d1 ⟨.refl _, .refl _, trivial⟩ (by trivial) rfl ?_)
      conv => whnf
      first | refine callF b1 ⟨.refl _, .refl _, trivial⟩ (by trivial) rfl ?_ | ((repeat (refine ⟨by kernel_rfl, ?_⟩; (conv => whnf))); refine callF b1 ⟨.refl _, .refl _, trivial⟩ (by trivial) rfl ?_)
      conv => whnf
      first | refine callF b2 ⟨.refl _, .refl _, trivial⟩ (by trivial) rfl ?_ | ((repeat (refine ⟨by kernel_rfl, ?_⟩; (conv => whnf))); refine callF b2 ⟨.refl _, .refl _, trivial⟩ (by trivial) rfl ?_)
      conv => whnf
      first | refine callF s1 ⟨.refl _, .refl _, trivial⟩ (by trivial) rfl ?_ | ((repeat (refine ⟨by kernel_rfl, ?_⟩; (conv => whnf))); refine callF s1 ⟨.refl _, .refl _, trivial⟩ (by trivial) rfl ?_)
      conv => whnf
      first | refine callF s2 ⟨.refl _, .refl _, trivial⟩ (by trivial) rfl ?_ | ((repeat (refine ⟨by kernel_rfl, ?_⟩; (conv => whnf))); refine callF s2 ⟨.refl _, .refl _, trivial⟩ (by trivial) rfl ?_)
      conv => whnf
      refine splF (by simp) ?_
      conv => whnf
      first | refine callF q1 ⟨.refl _, .refl _, trivial⟩ (by trivial) rfl ?_ | ((repeat (refine ⟨by kernel_rfl, ?_⟩; (conv => whnf))); refine callF q1 ⟨.refl _, .refl _, trivial⟩ (by trivial) rfl ?_)
      conv => whnf
      refine ⟨by kernel_rfl, ?_⟩
      conv => whnf
      first | refine callF d2 ⟨.refl _, .refl _, trivial⟩ (by trivial) rfl ?_ | ((repeat (refine ⟨by kernel_rfl, ?_⟩; (conv => whnf))); refine callF d2 ⟨.refl _, .refl _, trivial⟩ (by trivial) rfl ?_)
      conv => whnf
      first | refine callF q2 ⟨.refl _, .refl _, trivial⟩ (by trivial) rfl ?_ | ((repeat (refine ⟨by kernel_rfl, ?_⟩; (conv => whnf))); refine callF q2 ⟨.refl _, .refl _, trivial⟩ (by trivial) rfl ?_)
      conv => whnf
      (repeat (refine ⟨by kernel_rfl, ?_⟩; (conv => whnf)))
      refine ⟨(by (try simp only [true_and, and_true, Nat.sub_zero, Nat.zero_add, Int.toNat_natCast]) <;> omega), ?_⟩
      exact .refl _
    | false =>
      rw [hB, if_neg (by simp)] at b1 b2
      have q1 := sEqual_rat0
      refine acall_rule env [0, 1, 2, 4, 5, 6, 7, 8, 9, 10, 11, 23, 64] Tryz.func14 rfl rfl rfl rfl ?_
      conv => whnf
      first | refine callF v1 ⟨.refl _, trivial⟩ (by trivial) rfl ?_ | ((repeat (refine ⟨by kernel_rfl, ?_⟩; (conv => whnf))); refine callF v1 ⟨.refl _, trivial⟩ (by trivial) rfl ?_)
      conv => whnf
      refine splF (by simp) ?_
      conv => whnf
      first | refine callF d1 ⟨.refl _, .refl _, trivial⟩ (by trivial) rfl ?_ | ((repeat (refine ⟨by kernel_rfl, ?_⟩; (conv => whnf))); refine callF d1 ⟨.refl _, .refl _, trivial⟩ (by trivial) rfl ?_)
      conv => whnf
      first | refine callF b1 ⟨.refl _, .refl _, trivial⟩ (by trivial) rfl ?_ | ((repeat (refine ⟨by kernel_rfl, ?_⟩; (conv => whnf))); refine callF b1 ⟨.refl _, .refl _, trivial⟩ (by trivial) rfl ?_)
      conv => whnf
      first | refine callF b2 ⟨.refl _, .refl _, trivial⟩ (by trivial) rfl ?_ | ((repeat (refine ⟨by kernel_rfl, ?_⟩; (conv => whnf))); refine callF b2 ⟨.refl _, .refl _, trivial⟩ (by trivial) rfl ?_)
      conv => whnf
      first | refine callF s1 ⟨.refl _, .refl _, trivial⟩ (by trivial) rfl ?_ | ((repeat (refine ⟨by kernel_rfl, ?_⟩; (conv => whnf))); refine callF s1 ⟨.refl _, .refl _, trivial⟩ (by trivial) rfl ?_)
      conv => whnf
      first | refine callF s2 ⟨.refl _, .refl _, trivial⟩ (by trivial) rfl ?_ | ((repeat (refine ⟨by kernel_rfl, ?_⟩; (conv => whnf))); refine callF s2 ⟨.refl _, .refl _, trivial⟩ (by trivial) rfl ?_)
      conv => whnf
      refine splF (by simp) ?_
      conv => whnf
      first | refine callF q1 ⟨.refl _, .refl _, trivial⟩ (by trivial) rfl ?_ | ((repeat (refine ⟨by kernel_rfl, ?_⟩; (conv => whnf))); refine callF q1 ⟨.refl _, .refl _, trivial⟩ (by trivial) rfl ?_)
      conv => whnf
      refine ⟨by kernel_rfl, ?_⟩
      conv => whnf
      first | refine callF d2 ⟨.refl _, .refl _, trivial⟩ (by trivial) rfl ?_ | ((repeat (refine ⟨by kernel_rfl, ?_⟩; (conv => whnf))); refine callF d2 ⟨.refl _, .refl _, trivial⟩ (by trivial) rfl ?_)
      conv => whnf
      first | refine callF q2 ⟨.refl _, .refl _, trivial⟩ (by trivial) rfl ?_ | ((repeat (refine ⟨by kernel_rfl, ?_⟩; (conv => whnf))); refine callF q2 ⟨.refl _, .refl _, trivial⟩ (by trivial) rfl ?_)
      conv => whnf
      (repeat (refine ⟨by kernel_rfl, ?_⟩; (conv => whnf)))
      refine ⟨(by (try simp only [true_and, and_true, Nat.sub_zero, Nat.zero_add, Int.toNat_natCast]) <;> omega), ?_⟩
      exact .refl _
  · have hs : p.sgnd y n = false := by unfold Pr.sgnd; rw [decide_eq_false he]; rfl
    have hB : p.bndOk y n = false := by unfold Pr.bndOk; rw [hs]; rfl
    rw [bndRes, hB, if_neg (by simp)] at b1 b2
    rw [redRes, if_pos he] at d1
    rw [hs] at s1 s2
    have q1 := sEqual_rat0
    by_cases h0 : p.err = 0
    · have hn : n ≠ p.nr := fun h => he (Pr.errS_zero.2 ⟨h0, h⟩)
      have hE : p.errS n p.nr = 4 := by unfold Pr.errS; rw [if_neg (by simp [h0]), if_neg hn]
      rw [hE] at d1
      rw [h0] at v1
      refine acall_rule env [0, 1, 2, 4, 5, 6, 7, 8, 9, 10, 11, 23, 64] Tryz.func14 rfl rfl rfl rfl ?_
      conv => whnf
      first | refine callF v1 ⟨.refl _, trivial⟩ (by trivial) rfl ?_ | ((repeat (refine ⟨by kernel_rfl, ?_⟩; (conv => whnf))); refine callF v1 ⟨.refl _, trivial⟩ (by trivial) rfl ?_)
      conv => whnf
      refine splT (by simp; omega) ?_
      conv => whnf
      first | refine callF d1 ⟨.refl _, .refl _, trivial⟩ (by trivial) rfl ?_ | ((repeat (refine ⟨by kernel_rfl, ?_⟩; (conv => whnf))); refine callF d1 ⟨.refl _, .refl _, trivial⟩ (by trivial) rfl ?_)
      conv => whnf
      first | refine callF b1 ⟨.refl _, .refl _, trivial⟩ (by trivial) rfl ?_ | ((repeat (refine ⟨by kernel_rfl, ?_⟩; (conv => whnf))); refine callF b1 ⟨.refl _, .refl _, trivial⟩ (by trivial) rfl ?_)
      conv => whnf
      first | refine callF b2 ⟨.refl _, .refl _, trivial⟩ (by trivial) rfl ?_ | ((repeat (refine ⟨by kernel_rfl, ?_⟩; (conv => whnf))); refine callF b2 ⟨.refl _, .refl _, trivial⟩ (by trivial) rfl ?_)
      conv => whnf
      first | refine callF s1 ⟨.refl _, .refl _, trivial⟩ (by trivial) rfl ?_ | ((repeat (refine ⟨by kernel_rfl, ?_⟩; (conv => whnf))); refine callF s1 ⟨.refl _, .refl _, trivial⟩ (by trivial) rfl ?_)
      conv => whnf
      first | refine callF s2 ⟨.refl _, .refl _, trivial⟩ (by trivial) rfl ?_ | ((repeat (refine ⟨by kernel_rfl, ?_⟩; (conv => whnf))); refine callF s2 ⟨.refl _, .refl _, trivial⟩ (by trivial) rfl ?_)
      conv => whnf
      first | refine callF q1 ⟨.refl _, .refl _, trivial⟩ (by trivial) rfl ?_ | ((repeat (refine ⟨by kernel_rfl, ?_⟩; (conv => whnf))); refine callF q1 ⟨.refl _, .refl _, trivial⟩ (by trivial) rfl ?_)
      conv => whnf
      refine ⟨by kernel_rfl, ?_⟩
      conv => whnf
      (repeat (refine ⟨by kernel_rfl, ?_⟩; (conv => whnf)))
      refine ⟨(by (try simp only [true_and, and_true, Nat.sub_zero, Nat.zero_add, Int.toNat_natCast]) <;> omega), ?_⟩
      exact .refl _
    · have hE : p.errS n p.nr = p.err := by unfold Pr.errS; rw [if_pos (by simp [h0])]
      rw [hE] at d1
      generalize p.err = E at *
      refine acall_rule env [0, 1, 2, 4, 5, 6, 7, 8, 9, 10, 11, 23, 64] Tryz.func14 rfl rfl rfl rfl ?_
      conv => whnf
      first | refine callF v1 ⟨.refl _, trivial⟩ (by trivial) rfl ?_ | ((repeat (refine ⟨by kernel_rfl, ?_⟩; (conv => whnf))); refine callF v1 ⟨.refl _, trivial⟩ (by trivial) rfl ?_)
      conv => whnf
      refine splF (by simp [h0]) ?_
      conv => whnf
      first | refine callF d1 ⟨.refl _, .refl _, trivial⟩ (by trivial) rfl ?_ | ((repeat (refine ⟨by kernel_rfl, ?_⟩; (conv => whnf))); refine callF d1 ⟨.refl _, .refl _, trivial⟩ (by trivial) rfl ?_)
      conv => whnf
      first | refine callF b1 ⟨.refl _, .refl _, trivial⟩ (by trivial) rfl ?_ | ((repeat (refine ⟨by kernel_rfl, ?_⟩; (conv => whnf))); refine callF b1 ⟨.refl _, .refl _, trivial⟩ (by trivial) rfl ?_)
      conv => whnf
      first | refine callF b2 ⟨.refl _, .refl _, trivial⟩ (by trivial) rfl ?_ | ((repeat (refine ⟨by kernel_rfl, ?_⟩; (conv => whnf))); refine callF b2 ⟨.refl _, .refl _, trivial⟩ (by trivial) rfl ?_)
      conv => whnf
      refine splF (by simp) ?_
      conv => whnf
      first | refine callF s1 ⟨.refl _, .refl _, trivial⟩ (by trivial) rfl ?_ | ((repeat (refine ⟨by kernel_rfl, ?_⟩; (conv => whnf))); refine callF s1 ⟨.refl _, .refl _, trivial⟩ (by trivial) rfl ?_)
      conv => whnf
      first | refine callF s2 ⟨.refl _, .refl _, trivial⟩ (by trivial) rfl ?_ | ((repeat (refine ⟨by kernel_rfl, ?_⟩; (conv => whnf))); refine callF s2 ⟨.refl _, .refl _, trivial⟩ (by trivial) rfl ?_)
      conv => whnf
      first | refine callF q1 ⟨.refl _, .refl _, trivial⟩ (by trivial) rfl ?_ | ((repeat (refine ⟨by kernel_rfl, ?_⟩; (conv => whnf))); refine callF q1 ⟨.refl _, .refl _, trivial⟩ (by trivial) rfl ?_)
      conv => whnf
      refine ⟨by kernel_rfl, ?_⟩
      conv => whnf
      refine splT (by simp [h0]) ?_
      conv => whnf
      (repeat (refine ⟨by kernel_rfl, ?_⟩; (conv => whnf)))
      refine ⟨(by (try simp only [true_and, and_true, Nat.sub_zero, Nat.zero_add, Int.toNat_natCast]) <;> omega), ?_⟩
      exact .refl _
end Go.Abs

/- Laws of layer 11: points, multipliers. -/
set_option autoImplicit false
set_option maxHeartbeats 4000000
set_option maxRecDepth 10000
set_option linter.unusedVariables false
set_option linter.unusedSimpArgs false
namespace Go.Abs
open Go Go.Proofs

theorem LinprogPoints_ok {p : Pr} (hp : p.H) {x : Nat → RR} {nx : Nat} (hx : XH x nx) (g h : Nat → Int) (n m : Nat) (hn : n ≤ 1099511627776) (hm : m ≤ 1099511627776) :
    ACall Tryz.prog 6 [p.a, rats x nx, nums g n, nums h m] (.f (.bool true)) := by
  have g1 := gProgram_ok g n hn
  have t1 := gNew_ok h m
  obtain ⟨s1, s2, s3⟩ := tPr_small g n 0
  have hq := gen_H g n
  have hpn := hx.n
  have sm := lawSmall_ok hp
  have fi := hFirst_ok x nx 20 (by omega) (by omega)
  have p1 := lawPoints_ok hp (hx.le (Nat.min_le_left nx 20))
  have r1 := gRats_ok h m 0 (tPr g n 0 4 4).nc hm (Nat.zero_le _) (by omega)
  have x1 := gen_XH h m 0 (tPr g n 0 4 4).nc (by omega)
  have p2 := lawPoints_ok hq x1
  have hle := tpos_le (n := m) (Nat.zero_le m) (tPr g n 0 4 4).nc
  generalize tpos m (tPr g n 0 4 4).nc 0 = i1 at *
  have nx1 := gNext_ok h m i1 5 (by decide) (by decide) hm hle
  have hst : tstep m i1 ≤ m := tstep_le hle
  have hk := tnext_range h m i1 (N := 5) (by decide)
  obtain ⟨k, hk'⟩ : ∃ k : Nat, tnext h m i1 5 = k := ⟨(tnext h m i1 5).toNat, by omega⟩
  rw [hk'] at nx1
  have r2 := gRats_ok h m (tstep m i1) k hm hst (by omega)
  have p3 := lawPoints_ok hq (gen_XH h m (tstep m i1) k (by omega))
  generalize tPr g n 0 4 4 = q at *
  generalize smallB p = B at *
  refine acall_rule env [0, 1, 2, 3, 4, 8, 9, 10] Tryz.func6 rfl rfl rfl rfl ?_
  conv => whnf
  first | refine callF g1 ⟨.refl _, trivial⟩ (by trivial) rfl ?_ | ((repeat (refine ⟨by kernel_rfl, ?_⟩; (conv => whnf))); refine callF g1 ⟨.refl _, trivial⟩ (by trivial) rfl ?_)
  conv => whnf
  refine callR [] t1 ?_
  conv => whnf
  refine ⟨⟨.refl _, trivial⟩, trivial, ?_⟩
  conv => whnf
  first | refine callF awake11_ok trivial (by trivial) rfl ?_ | ((repeat (refine ⟨by kernel_rfl, ?_⟩; (conv => whnf))); refine callF awake11_ok trivial (by trivial) rfl ?_)
  conv => whnf
  first | refine callF sm ⟨.refl _, trivial⟩ (by trivial) rfl ?_ | ((repeat (refine ⟨by kernel_rfl, ?_⟩; (conv => whnf))); refine callF sm ⟨.refl _, trivial⟩ (by trivial) rfl ?_)
  conv => whnf
  cases B
  · refine callR [14] r1 ?_
    conv => whnf
    refine ⟨⟨⟨rfl, rfl⟩, .refl _, trivial⟩, ⟨⟨.refl _, .refl _, trivial⟩, trivial⟩, ?_⟩
    conv => whnf
    first | refine callF p2 ⟨.refl _, .refl _, trivial⟩ (by trivial) rfl ?_ | ((repeat (refine ⟨by kernel_rfl, ?_⟩; (conv => whnf))); refine callF p2 ⟨.refl _, .refl _, trivial⟩ (by trivial) rfl ?_)
    conv => whnf
    refine callR [14] nx1 ?_
    conv => whnf
    refine ⟨⟨⟨rfl, rfl⟩, .refl _, trivial⟩, ⟨⟨.refl _, .refl _, trivial⟩, trivial⟩, ?_⟩
    conv => whnf
    refine callR [14] r2 ?_
    conv => whnf
    refine ⟨⟨⟨rfl, rfl⟩, .refl _, trivial⟩, ⟨⟨.refl _, .refl _, trivial⟩, trivial⟩, ?_⟩
    conv => whnf
    first | refine callF p3 ⟨.refl _, .refl _, trivial⟩ (by trivial) rfl ?_ | ((repeat (refine ⟨by kernel_rfl, ?_⟩; (conv => whnf))); refine callF p3 ⟨.refl _, .refl _, trivial⟩ (by trivial) rfl ?_)
    conv => whnf
    refine ⟨by kernel_rfl, ?_⟩
    conv => whnf
    (repeat (refine ⟨by kernel_rfl, ?_⟩; (conv => whnf)))
    refine ⟨(by (try simp only [true_and, and_true, Nat.sub_zero, Nat.zero_add, Int.toNat_natCast]) <;> omega), ?_⟩
    exact .refl _
  · first | refine callF fi ⟨.refl _, .refl _, trivial⟩ (by trivial) rfl ?_ | ((repeat (refine ⟨by kernel_rfl, ?_⟩; (conv => whnf))); refine callF fi ⟨.refl _, .refl _, trivial⟩ (by trivial) rfl ?_)
    conv => whnf
    first | refine callF p1 ⟨.refl _, .refl _, trivial⟩ (by trivial) rfl ?_ | ((repeat (refine ⟨by kernel_rfl, ?_⟩; (conv => whnf))); refine callF p1 ⟨.refl _, .refl _, trivial⟩ (by trivial) rfl ?_)
    conv => whnf
    refine callR [14] r1 ?_
    conv => whnf
    refine ⟨⟨⟨rfl, rfl⟩, .refl _, trivial⟩, ⟨⟨.refl _, .refl _, trivial⟩, trivial⟩, ?_⟩
    conv => whnf
    first | refine callF p2 ⟨.refl _, .refl _, trivial⟩ (by trivial) rfl ?_ | ((repeat (refine ⟨by kernel_rfl, ?_⟩; (conv => whnf))); refine callF p2 ⟨.refl _, .refl _, trivial⟩ (by trivial) rfl ?_)
    conv => whnf
    refine callR [14] nx1 ?_
    conv => whnf
    refine ⟨⟨⟨rfl, rfl⟩, .refl _, trivial⟩, ⟨⟨.refl _, .refl _, trivial⟩, trivial⟩, ?_⟩
    conv => whnf
    refine callR [14] r2 ?_
    conv => whnf
    refine ⟨⟨⟨rfl, rfl⟩, .refl _, trivial⟩, ⟨⟨.refl _, .refl _, trivial⟩, trivial⟩, ?_⟩
    conv => whnf
    first | refine callF p3 ⟨.refl _, .refl _, trivial⟩ (by trivial) rfl ?_ | ((repeat (refine ⟨by kernel_rfl, ?_⟩; (conv => whnf))); refine callF p3 ⟨.refl _, .refl _, trivial⟩ (by trivial) rfl ?_)
    conv => whnf
    refine ⟨by kernel_rfl, ?_⟩
    conv => whnf
    (repeat (refine ⟨by kernel_rfl, ?_⟩; (conv => whnf)))
    refine ⟨(by (try simp only [true_and, and_true, Nat.sub_zero, Nat.zero_add, Int.toNat_natCast]) <;> omega), ?_⟩
    exact .refl _
theorem LinprogMultipliers_ok {p : Pr} (hp : p.H) {x : Nat → RR} {nx : Nat} (hx : XH x nx) (g h : Nat → Int) (n m : Nat) (hn : n ≤ 1099511627776) (hm : m ≤ 1099511627776) :
    ACall Tryz.prog 3 [p.a, rats x nx, nums g n, nums h m] (.f (.bool true)) := by
  have g1 := gProgram_ok g n hn
  have t1 := gNew_ok h m
  obtain ⟨s1, s2, s3⟩ := tPr_small g n 0
  have hq := gen_H g n
  have hpn := hx.n
  have sm := lawSmall_ok hp
  have fi := hFirst_ok x nx 20 (by omega) (by omega)
  have p1 := lawMult_ok hp (hx.le (Nat.min_le_left nx 20))
  have r1 := gRats_ok h m 0 (tPr g n 0 4 4).nr hm (Nat.zero_le _) (by omega)
  have x1 := gen_XH h m 0 (tPr g n 0 4 4).nr (by omega)
  have hsz : ∀ j, (tRats h m 0 j).sz ≤ 4096 := fun j => by show (RR.of _).sz ≤ _; rw [RR.of_sz]; exact Nat.le_trans (tR_sz _ _ _) (by omega)
  have l1 := lawSigned_ok hq (y := tRats h m 0) (fun j _ => RR.of_ok _) (fun j _ => hsz j)
  have x2 := sgnR_xh (p := tPr g n 0 4 4) (y := tRats h m 0) (n := (tPr g n 0 4 4).nr) (fun j _ => RR.of_ok _) (fun j _ => hsz j) (by omega)
  have p2 := lawMult_ok hq x1
  have p4 := lawMult_ok hq x2
  have hle := tpos_le (n := m) (Nat.zero_le m) (tPr g n 0 4 4).nr
  generalize tpos m (tPr g n 0 4 4).nr 0 = i1 at *
  have nx1 := gNext_ok h m i1 5 (by decide) (by decide) hm hle
  have hst : tstep m i1 ≤ m := tstep_le hle
  have hk := tnext_range h m i1 (N := 5) (by decide)
  obtain ⟨k, hk'⟩ : ∃ k : Nat, tnext h m i1 5 = k := ⟨(tnext h m i1 5).toNat, by omega⟩
  rw [hk'] at nx1
  have r2 := gRats_ok h m (tstep m i1) k hm hst (by omega)
  have p3 := lawMult_ok hq (gen_XH h m (tstep m i1) k (by omega))
  generalize tPr g n 0 4 4 = q at *
  generalize smallB p = B at *
  refine acall_rule env [0, 1, 2, 3, 4, 8, 9, 10, 11] Tryz.func3 rfl rfl rfl rfl ?_
  conv => whnf
  first | refine callF g1 ⟨.refl _, trivial⟩ (by trivial) rfl ?_ | ((repeat (refine ⟨by kernel_rfl, ?_⟩; (conv => whnf))); refine callF g1 ⟨.refl _, trivial⟩ (by trivial) rfl ?_)
  conv => whnf
  refine callR [] t1 ?_
  conv => whnf
  refine ⟨⟨.refl _, trivial⟩, trivial, ?_⟩
  conv => whnf
  refine callR [15] r1 ?_
  conv => whnf
  refine ⟨⟨⟨rfl, rfl⟩, .refl _, trivial⟩, ⟨⟨.refl _, .refl _, trivial⟩, trivial⟩, ?_⟩
  conv => whnf
  first | refine callF awake11_ok trivial (by trivial) rfl ?_ | ((repeat (refine ⟨by kernel_rfl, ?_⟩; (conv => whnf))); refine callF awake11_ok trivial (by trivial) rfl ?_)
  conv => whnf
  first | refine callF sm ⟨.refl _, trivial⟩ (by trivial) rfl ?_ | ((repeat (refine ⟨by kernel_rfl, ?_⟩; (conv => whnf))); refine callF sm ⟨.refl _, trivial⟩ (by trivial) rfl ?_)
  conv => whnf
  cases B
  · first | refine callF p2 ⟨.refl _, .refl _, trivial⟩ (by trivial) rfl ?_ | ((repeat (refine ⟨by kernel_rfl, ?_⟩; (conv => whnf))); refine callF p2 ⟨.refl _, .refl _, trivial⟩ (by trivial) rfl ?_)
    conv => whnf
    first | refine callF l1 ⟨.refl _, .refl _, trivial⟩ (by trivial) rfl ?_ | ((repeat (refine ⟨by kernel_rfl, ?_⟩; (conv => whnf))); refine callF l1 ⟨.refl _, .refl _, trivial⟩ (by trivial) rfl ?_)
    conv => whnf
    first | refine callF p4 ⟨.refl _, .refl _, trivial⟩ (by trivial) rfl ?_ | ((repeat (refine ⟨by kernel_rfl, ?_⟩; (conv => whnf))); refine callF p4 ⟨.refl _, .refl _, trivial⟩ (by trivial) rfl ?_)
    conv => whnf
    refine callR [15] nx1 ?_
    conv => whnf
    refine ⟨⟨⟨rfl, rfl⟩, .refl _, trivial⟩, ⟨⟨.refl _, .refl _, trivial⟩, trivial⟩, ?_⟩
    conv => whnf
    refine callR [15] r2 ?_
    conv => whnf
    refine ⟨⟨⟨rfl, rfl⟩, .refl _, trivial⟩, ⟨⟨.refl _, .refl _, trivial⟩, trivial⟩, ?_⟩
    conv => whnf
    first | refine callF p3 ⟨.refl _, .refl _, trivial⟩ (by trivial) rfl ?_ | ((repeat (refine ⟨by kernel_rfl, ?_⟩; (conv => whnf))); refine callF p3 ⟨.refl _, .refl _, trivial⟩ (by trivial) rfl ?_)
    conv => whnf
    refine ⟨by kernel_rfl, ?_⟩
    conv => whnf
    (repeat (refine ⟨by kernel_rfl, ?_⟩; (conv => whnf)))
    refine ⟨(by (try simp only [true_and, and_true, Nat.sub_zero, Nat.zero_add, Int.toNat_natCast]) <;> omega), ?_⟩
    exact .refl _
  · first | refine callF fi ⟨.refl _, .refl _, trivial⟩ (by trivial) rfl ?_ | ((repeat (refine ⟨by kernel_rfl, ?_⟩; (conv => whnf))); refine callF fi ⟨.refl _, .refl _, trivial⟩ (by trivial) rfl ?_)
    conv => whnf
    first | refine callF p1 ⟨.refl _, .refl _, trivial⟩ (by trivial) rfl ?_ | ((repeat (refine ⟨by kernel_rfl, ?_⟩; (conv => whnf))); refine callF p1 ⟨.refl _, .refl _, trivial⟩ (by trivial) rfl ?_)
    conv => whnf
    first | refine callF p2 ⟨.refl _, .refl _, trivial⟩ (by trivial) rfl ?_ | ((repeat (refine ⟨by kernel_rfl, ?_⟩; (conv => whnf))); refine callF p2 ⟨.refl _, .refl _, trivial⟩ (by trivial) rfl ?_)
    conv => whnf
    first | refine callF l1 ⟨.refl _, .refl _, trivial⟩ (by trivial) rfl ?_ | ((repeat (refine ⟨by kernel_rfl, ?_⟩; (conv => whnf))); refine callF l1 ⟨.refl _, .refl _, trivial⟩ (by trivial) rfl ?_)
    conv => whnf
    first | refine callF p4 ⟨.refl _, .refl _, trivial⟩ (by trivial) rfl ?_ | ((repeat (refine ⟨by kernel_rfl, ?_⟩; (conv => whnf))); refine callF p4 ⟨.refl _, .refl _, trivial⟩ (by trivial) rfl ?_)
    conv => whnf
    refine callR [15] nx1 ?_
    conv => whnf
    refine ⟨⟨⟨rfl, rfl⟩, .refl _, trivial⟩, ⟨⟨.refl _, .refl _, trivial⟩, trivial⟩, ?_⟩
    conv => whnf
    refine callR [15] r2 ?_
    conv => whnf
    refine ⟨⟨⟨rfl, rfl⟩, .refl _, trivial⟩, ⟨⟨.refl _, .refl _, trivial⟩, trivial⟩, ?_⟩
    conv => whnf
    first | refine callF p3 ⟨.refl _, .refl _, trivial⟩ (by trivial) rfl ?_ | ((repeat (refine ⟨by kernel_rfl, ?_⟩; (conv => whnf))); refine callF p3 ⟨.refl _, .refl _, trivial⟩ (by trivial) rfl ?_)
    conv => whnf
    refine ⟨by kernel_rfl, ?_⟩
    conv => whnf
    (repeat (refine ⟨by kernel_rfl, ?_⟩; (conv => whnf)))
    refine ⟨(by (try simp only [true_and, and_true, Nat.sub_zero, Nat.zero_add, Int.toNat_natCast]) <;> omega), ?_⟩
    exact .refl _
end Go.Abs

/- What comes in: lists of limbs, integers. -/
set_option autoImplicit false
set_option maxHeartbeats 4000000
set_option linter.unusedVariables false
set_option linter.unusedSimpArgs false
namespace Go.Abs
open Go Go.Proofs

theorem dec_limbs {c : List FV} {n : Nat} (h : Fits tab 36 c n) : ∃ (g : Nat → Nat) (m : Nat), Dig g m ∧ m + 1 ≤ n ∧ All2 FVle c [.sl 1 (fun j => [.int .u32 (g j : Nat)]) m none] := by
  obtain ⟨te, at_, len, bs, he, rfl, hel, hn⟩ := h.inv rfl
  have hte : te = ⟨.int .u32, 1, 4, [.int .u32 0]⟩ := by cases he; rfl
  have hx : ∀ i, i < len → ∃ x : Nat, x < 4294967296 ∧ at_ i = [.int .u32 (x : Int)] := by
    intro i hi
    have := (hel i hi).inv he
    subst hte
    obtain ⟨z, h1, h2, h3⟩ := this
    refine ⟨z.toNat, ?_, ?_⟩
    · have : z ≤ 4294967295 := h3
      have : 0 ≤ z := h2
      omega
    · have : 0 ≤ z := h2
      rw [h1, Int.toNat_of_nonneg this]
  obtain ⟨g, hg⟩ := pickF hx
  refine ⟨g, len, fun i hi => (hg i hi).1, ?_, ?_, trivial⟩
  · have := len_le_sumTo (bs := bs) (n := len) fun i hi => (hel i hi).pos
    omega
  · subst hte
    refine .sl (fun i hi => ?_) (.inl rfl)
    rw [(hg i hi).2]
    exact ⟨.refl _, trivial⟩

theorem dec_Int {c : List FV} {n : Nat} (h : Fits tab 38 c n) : ∃ (neg : Bool) (g : Nat → Nat) (m : Nat), Dig g m ∧ m + 1 ≤ n ∧ All2 FVle c [.bool neg, .sl 1 (fun j => [.int .u32 (g j : Nat)]) m none] := by
  obtain ⟨m0, hf, hn⟩ := h.inv rfl
  obtain ⟨a, b, c1, c2, h1, h2, rfl, rfl⟩ := hf.inv
  obtain ⟨a2, b2, c3, c4, h3, h4, rfl, rfl⟩ := h2.inv
  obtain ⟨rfl, rfl⟩ := h4.inv0
  obtain ⟨neg, rfl⟩ := h1.inv rfl
  obtain ⟨g, m, hg, hm, hle⟩ := dec_limbs h3
  refine ⟨neg, g, m, hg, by omega, ?_⟩
  rw [List.append_nil]
  exact ⟨.refl _, hle⟩

theorem all2_fle_fL : ∀ {c c' : List FV}, All2 FVle c c' → All2 AVle (fL c) (fL c')
  | [], [], _ => by simp [fL, All2]
  | x :: r, y :: r', ⟨a, b⟩ => by simp only [fL]; exact ⟨.f a, all2_fle_fL b⟩
  | [], _ :: _, h => h.elim
  | _ :: _, [], h => h.elim
theorem AVle.of_fL {c c' : List FV} (h : All2 FVle c c') : AVle (.agg (fL c)) (.agg (fL c')) := .agg (all2_fle_fL h)
theorem par_Int {c : List FV} {n : Nat} (h : Fits tab 38 c n) : ∃ (x : AV) (z : Int), IsI x z n ∧ AVle (.agg (fL c)) x := by
  obtain ⟨neg, g, m, hg, hm, hle⟩ := dec_Int h
  exact ⟨_, _, .mk neg g m n hg (by omega), .of_fL hle⟩
theorem par_limbs {c : FV} {n : Nat} (h : Fits tab 36 [c] n) : ∃ (g : Nat → Nat) (m : Nat), Dig g m ∧ m ≤ n ∧ AVle (.f c) (raw g m) := by
  obtain ⟨g, m, hg, hm, hle⟩ := dec_limbs h
  exact ⟨g, m, hg, by omega, .f hle.1⟩
theorem par_int {c : FV} {n : Nat} (h : Fits tab 3 [c] n) : ∃ z : Int, (-9223372036854775808 ≤ z ∧ z ≤ 9223372036854775807) ∧ AVle (.f c) (.f (.int .i64 z)) := by
  obtain ⟨z, hc, h1, h2⟩ := h.inv rfl
  cases hc
  exact ⟨z, ⟨h1, h2⟩, .refl _⟩
end Go.Abs

/- What comes in: rational numbers. -/
set_option autoImplicit false
set_option maxHeartbeats 4000000
set_option linter.unusedVariables false
set_option linter.unusedSimpArgs false
namespace Go.Abs
open Go Go.Proofs

theorem all2_app {α β : Type} {R : α → β → Prop} : ∀ {a : List α} {b : List β} {c : List α} {d : List β}, All2 R a b → All2 R c d → All2 R (a ++ c) (b ++ d)
  | [], [], _, _, _, h => h
  | _ :: _, _ :: _, _, _, ⟨h1, h2⟩, h => ⟨h1, all2_app h2 h⟩
  | [], _ :: _, _, _, h, _ => h.elim
  | _ :: _, [], _, _, h, _ => h.elim
theorem dec_Rat {c : List FV} {n : Nat} (h : Fits tab 40 c n) : ∃ (neg : Bool) (g : Nat → Nat) (m : Nat) (g' : Nat → Nat) (m' : Nat), Dig g m ∧ Dig g' m' ∧ m + m' + 3 ≤ n ∧ All2 FVle c [.bool neg, .sl 1 (fun j => [.int .u32 (g j : Nat)]) m none, .sl 1 (fun j => [.int .u32 (g' j : Nat)]) m' none] := by
  obtain ⟨m0, hf, hn⟩ := h.inv rfl
  obtain ⟨a, b, c1, c2, h1, h2, rfl, rfl⟩ := hf.inv
  obtain ⟨a2, b2, c3, c4, h3, h4, rfl, rfl⟩ := h2.inv
  obtain ⟨rfl, rfl⟩ := h4.inv0
  obtain ⟨neg, g, m, hg, hm, hle⟩ := dec_Int h1
  obtain ⟨g', m', hg', hm', hle'⟩ := dec_limbs h3
  refine ⟨neg, g, m, g', m', hg, hg', by omega, ?_⟩
  rw [List.append_nil]
  exact all2_app hle hle'
theorem par_Rat {c : List FV} {n : Nat} (h : Fits tab 40 c n) : ∃ (x : AV) (q : Rat), IsR x q n ∧ AVle (.agg (fL c)) x := by
  obtain ⟨neg, g, m, g', m', hg, hg', hm, hle⟩ := dec_Rat h
  exact ⟨_, _, .mk neg g m g' m' n hg hg' (by omega) (by omega) (by omega), .of_fL hle⟩
theorem par_uint32 {c : FV} {n : Nat} (h : Fits tab 110 [c] n) : ∃ z : Int, (0 ≤ z ∧ z ≤ 4294967295) ∧ AVle (.f c) (.f (.int .u32 z)) := by
  obtain ⟨z, hc, h1, h2⟩ := h.inv rfl
  cases hc
  exact ⟨z, ⟨h1, h2⟩, .refl _⟩
theorem par_uint8 {c : FV} {n : Nat} (h : Fits tab 5 [c] n) : ∃ z : Int, (0 ≤ z ∧ z ≤ 255) ∧ AVle (.f c) (.f (.int .u8 z)) := by
  obtain ⟨z, hc, h1, h2⟩ := h.inv rfl
  cases hc
  exact ⟨z, ⟨h1, h2⟩, .refl _⟩
theorem par_bool {c : FV} {n : Nat} (h : Fits tab 4 [c] n) : ∃ b : Bool, AVle (.f c) (.f (.bool b)) := by
  obtain ⟨b, hc⟩ := h.inv rfl
  cases hc
  exact ⟨b, .refl _⟩
end Go.Abs

/- What comes in: lists of numbers, small numbers. -/
set_option autoImplicit false
set_option maxHeartbeats 4000000
set_option linter.unusedVariables false
set_option linter.unusedSimpArgs false
namespace Go.Abs
open Go Go.Proofs

theorem par_ints {c : FV} {n : Nat} (h : Fits tab 27 [c] n) : ∃ (g : Nat → Int) (m : Nat), (∀ i, i < m → -9223372036854775808 ≤ g i ∧ g i ≤ 9223372036854775807) ∧ m ≤ n ∧ AVle (.f c) (.f (.sl 1 (fun j => [.int .i64 (g j)]) m none)) := by
  obtain ⟨te, at_, len, bs, he, hc, hel, hn⟩ := h.inv rfl
  cases hc
  have hte : te = ⟨.int .i64, 1, 8, [.int .i64 0]⟩ := by cases he; rfl
  have hx : ∀ i, i < len → ∃ x : Int, (-9223372036854775808 ≤ x ∧ x ≤ 9223372036854775807) ∧ at_ i = [.int .i64 x] := by
    intro i hi
    have := (hel i hi).inv he
    subst hte
    obtain ⟨z, h1, h2, h3⟩ := this
    exact ⟨z, ⟨h2, h3⟩, h1⟩
  obtain ⟨g, hg⟩ := pickF hx
  refine ⟨g, len, fun i hi => (hg i hi).1, ?_, .f ?_⟩
  · have := len_le_sumTo (bs := bs) (n := len) fun i hi => (hel i hi).pos
    omega
  · subst hte
    refine .sl (fun i hi => ?_) (.inl rfl)
    rw [(hg i hi).2]
    exact ⟨.refl _, trivial⟩
end Go.Abs

/- What comes in: lists of rational numbers, linear programs. -/
set_option autoImplicit false
set_option maxHeartbeats 4000000
set_option linter.unusedVariables false
set_option linter.unusedSimpArgs false
namespace Go.Abs
open Go Go.Proofs

instance : Inhabited RR := ⟨RR.nil⟩
instance : Inhabited En := ⟨⟨0, RR.nil⟩⟩
instance : Inhabited Ro := ⟨⟨0, RR.nil, fun _ => default, 0⟩⟩
instance : Inhabited Co := ⟨⟨RR.nil, false, RR.nil, false, RR.nil⟩⟩
theorem nsum_sumTo {f bs : Nat → Nat} : ∀ {n : Nat}, (∀ i, i < n → f i ≤ bs i) → nsum f n ≤ sumTo bs n
  | 0, _ => Nat.le_refl _
  | n + 1, h => by
    have := nsum_sumTo (n := n) (fun i hi => h i (by omega))
    have := h n (by omega)
    simp only [nsum, sumTo]; omega
theorem dec_RR {c : List FV} {n : Nat} (h : Fits tab 40 c n) : ∃ r : RR, (r.Ok ∧ r.sz + 1 ≤ n) ∧ All2 FVle c r.c := by
  obtain ⟨neg, g, m, g', m', hg, hg', hm, hle⟩ := dec_Rat h
  exact ⟨⟨neg, g, m, g', m'⟩, ⟨⟨hg, hg'⟩, by unfold RR.sz; simp only; omega⟩, hle⟩
theorem par_Rats {c : FV} {n : Nat} (h : Fits tab 26 [c] n) (hn : n ≤ 1048576) : ∃ (x : Nat → RR) (m : Nat), XH x m ∧ m + nsum (fun j => (x j).sz) m + 1 ≤ n ∧ AVle (.f c) (rats x m) := by
  obtain ⟨te, at_, len, bs, he, hc, hel, hs⟩ := h.inv rfl
  cases hc
  have hte : te.size = 3 := by cases he; rfl
  have hx : ∀ i, i < len → ∃ r : RR, (r.Ok ∧ r.sz + 1 ≤ bs i) ∧ All2 FVle (at_ i) r.c := fun i hi => dec_RR (hel i hi)
  obtain ⟨x, hx⟩ := pickF hx
  have h1 : nsum (fun j => (x j).sz + 1) len ≤ sumTo bs len := nsum_sumTo fun i hi => (hx i hi).1.2
  have e : nsum (fun j => (x j).sz + 1) len = nsum (fun j => (x j).sz) len + nsum (fun _ => 1) len := by rw [nsum_add]
  have e2 := nsum_const 1 len
  refine ⟨x, len, ⟨fun j hj => (hx j hj).1.1, fun j hj => ?_, by omega, by omega⟩, by omega, .f ?_⟩
  · have h3 : (x j).sz ≤ nsum (fun j => (x j).sz) len := nsum_get (f := fun j => (x j).sz) hj
    omega
  · rw [hte]
    exact .sl (fun i hi => (hx i hi).2) (.inl rfl)
theorem dec_En {c : List FV} {n : Nat} (h : Fits tab 97 c n) : ∃ e : En, (e.Ok ∧ e.v.sz + 1 ≤ n) ∧ All2 FVle c e.c := by
  obtain ⟨m0, hf, hn⟩ := h.inv rfl
  obtain ⟨a, b, c1, c2, h1, h2, rfl, rfl⟩ := hf.inv
  obtain ⟨a2, b2, c3, c4, h3, h4, rfl, rfl⟩ := h2.inv
  obtain ⟨rfl, rfl⟩ := h4.inv0
  obtain ⟨z, rfl, p1, p2⟩ := h1.inv rfl
  obtain ⟨r, ⟨hr, hs⟩, hle⟩ := dec_RR h3
  refine ⟨⟨z, r⟩, ⟨⟨⟨p1, p2⟩, hr⟩, by simp only; omega⟩, ?_⟩
  rw [List.append_nil]
  exact ⟨.refl _, hle⟩
theorem dec_Ro {c : List FV} {n : Nat} (h : Fits tab 56 c n) : ∃ r : Ro, (r.Ok ∧ r.sz ≤ n ∧ r.k ≤ n) ∧ All2 FVle c r.c := by
  obtain ⟨m0, hf, hn⟩ := h.inv rfl
  obtain ⟨a, b, c1, c2, h1, h2, rfl, rfl⟩ := hf.inv
  obtain ⟨a2, b2, c3, c4, h3, h4, rfl, rfl⟩ := h2.inv
  obtain ⟨a3, b3, c5, c6, h5, h6, rfl, rfl⟩ := h4.inv
  obtain ⟨rfl, rfl⟩ := h6.inv0
  obtain ⟨z, rfl, p1, p2⟩ := h1.inv rfl
  obtain ⟨r, ⟨hr, hs⟩, hle⟩ := dec_RR h3
  obtain ⟨te, at_, len, bs, he, rfl, hel, hsum⟩ := h5.inv rfl
  have hte : te.size = 4 := by cases he; rfl
  have hx : ∀ i, i < len → ∃ e : En, (e.Ok ∧ e.v.sz + 1 ≤ bs i) ∧ All2 FVle (at_ i) e.c := fun i hi => dec_En (hel i hi)
  obtain ⟨e, hx⟩ := pickF hx
  have q1 : nsum (fun j => (e j).v.sz + 1) len ≤ sumTo bs len := nsum_sumTo fun i hi => (hx i hi).1.2
  have q2 := len_le_sumTo (bs := bs) (n := len) fun i hi => (hel i hi).pos
  refine ⟨⟨z, r, e, len⟩, ⟨⟨⟨p1, p2⟩, hr, fun j hj => (hx j hj).1.1⟩, ?_, by simp only; omega⟩, ?_⟩
  · unfold Ro.sz Ro.esz; simp only; omega
  · rw [List.append_nil, hte]
    exact ⟨.refl _, all2_app hle ⟨.sl (fun i hi => (hx i hi).2) (.inl rfl), trivial⟩⟩
theorem dec_Co {c : List FV} {n : Nat} (h : Fits tab 61 c n) : ∃ r : Co, (r.Ok ∧ r.sz ≤ n) ∧ All2 FVle c r.c := by
  obtain ⟨m0, hf, hn⟩ := h.inv rfl
  obtain ⟨a, b, c1, c2, h1, h2, rfl, rfl⟩ := hf.inv
  obtain ⟨a2, b2, c3, c4, h3, h4, rfl, rfl⟩ := h2.inv
  obtain ⟨a3, b3, c5, c6, h5, h6, rfl, rfl⟩ := h4.inv
  obtain ⟨a4, b4, c7, c8, h7, h8, rfl, rfl⟩ := h6.inv
  obtain ⟨a5, b5, c9, c10, h9, h10, rfl, rfl⟩ := h8.inv
  obtain ⟨rfl, rfl⟩ := h10.inv0
  obtain ⟨r1, ⟨hr1, hs1⟩, hle1⟩ := dec_RR h1
  obtain ⟨r2, ⟨hr2, hs2⟩, hle2⟩ := dec_RR h5
  obtain ⟨r3, ⟨hr3, hs3⟩, hle3⟩ := dec_RR h9
  obtain ⟨f1, rfl⟩ := h3.inv rfl
  obtain ⟨f2, rfl⟩ := h7.inv rfl
  refine ⟨⟨r1, f1, r2, f2, r3⟩, ⟨⟨hr1, hr2, hr3⟩, by unfold Co.sz; simp only; omega⟩, ?_⟩
  rw [List.append_nil]
  exact all2_app hle1 ⟨.refl _, all2_app hle2 ⟨.refl _, hle3⟩⟩
theorem par_Prog {c : List FV} {n : Nat} (h : Fits tab 25 c n) (hn : n ≤ 1048576) : ∃ p : Pr, p.H ∧ AVle (.agg (fL c)) p.a := by
  obtain ⟨m0, hf, hm⟩ := h.inv rfl
  obtain ⟨a, b, c1, c2, h1, h2, rfl, rfl⟩ := hf.inv
  obtain ⟨a2, b2, c3, c4, h3, h4, rfl, rfl⟩ := h2.inv
  obtain ⟨rfl, rfl⟩ := h4.inv0
  obtain ⟨te, at_, len, bs, he, rfl, hel, hsum⟩ := h1.inv rfl
  obtain ⟨te2, at2, len2, bs2, he2, rfl, hel2, hsum2⟩ := h3.inv rfl
  have hte : te.size = 11 := by cases he; rfl
  have hte2 : te2.size = 5 := by cases he2; rfl
  have hx : ∀ i, i < len → ∃ r : Co, (r.Ok ∧ r.sz ≤ bs i) ∧ All2 FVle (at_ i) r.c := fun i hi => dec_Co (hel i hi)
  have hy : ∀ i, i < len2 → ∃ r : Ro, (r.Ok ∧ r.sz ≤ bs2 i ∧ r.k ≤ bs2 i) ∧ All2 FVle (at2 i) r.c := fun i hi => dec_Ro (hel2 i hi)
  obtain ⟨x, hx⟩ := pickF hx
  obtain ⟨y, hy⟩ := pickF hy
  have q1 : nsum (fun j => (x j).sz) len ≤ sumTo bs len := nsum_sumTo fun i hi => (hx i hi).1.2
  have q2 : nsum (fun j => (y j).sz) len2 ≤ sumTo bs2 len2 := nsum_sumTo fun i hi => (hy i hi).1.2.1
  have q3 := len_le_sumTo (bs := bs) (n := len) fun i hi => (hel i hi).pos
  have q4 := len_le_sumTo (bs := bs2) (n := len2) fun i hi => (hel2 i hi).pos
  have q5 : ∀ i, i < len2 → (y i).k ≤ 1048576 := fun i hi => by
    have := (hy i hi).1.2.2
    have := sumTo_le (bs := bs2) hi
    omega
  refine ⟨⟨x, len, y, len2⟩, ⟨⟨fun j hj => (hx j hj).1.1, fun i hi => (hy i hi).1.1⟩, ?_, fun i hi => by have := q5 i hi; simp only; omega, by simp only; omega, by simp only; omega⟩, ?_⟩
  · unfold Pr.sz; simp only; omega
  · rw [hte, hte2]
    exact .agg ⟨.f (.sl (fun i hi => (hx i hi).2) (.inl rfl)), .f (.sl (fun i hi => (hy i hi).2) (.inl rfl)), trivial⟩
end Go.Abs
