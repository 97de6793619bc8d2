/- Contracts of the functions that the law calls, and the logic in which they are proved: part 6. -/
import Derived.Test.YtphneoieanklbaaGreatPq5
/- Laws of layer 12: what is certified as unbounded; solutions. -/
set_option autoImplicit false
set_option maxHeartbeats 4000000
set_option maxRecDepth 10000
set_option linter.unusedVariables false
set_option linter.unusedSimpArgs false
namespace Go.Abs
open Go Go.Proofs

def farR (x r : Nat → RR) (T : Rat) (j : Nat) : RR := RR.of ((x j).v + T * (r j).v)
theorem far_xh {x r : Nat → RR} {T : Rat} {n : Nat} (hx : XH x n) (hr : XH r n) (hsx : nsum (fun j => (x j).sz) n ≤ 1048576) (hsr : nsum (fun j => (r j).sz) n ≤ 1048576) (hT : rsz T ≤ 1) (hn : n ≤ 1048576) : XH (farR x r T) n := by
  have hz : ∀ j, j < n → (farR x r T j).sz ≤ (x j).sz + ((r j).sz + 2) := fun j hj => by
    show (RR.of _).sz ≤ _
    rw [RR.of_sz]
    exact Nat.le_trans (rsz_add (hx.ok j hj).size (rsz_mul hT (hr.ok j hj).size)) (by omega)
  have h1 : nsum (fun j => (farR x r T j).sz) n ≤ nsum (fun j => (x j).sz + ((r j).sz + 2)) n := nsum_mono hz
  have h2 : nsum (fun j => (x j).sz + ((r j).sz + 2)) n = nsum (fun j => (x j).sz) n + (nsum (fun j => (r j).sz) n + nsum (fun _ => 2) n) := by rw [nsum_add, nsum_add]
  have h3 := nsum_const 2 n
  refine ⟨fun j _ => RR.of_ok _, fun j hj => ?_, by omega, by omega⟩
  have h4 : (x j).sz ≤ nsum (fun j => (x j).sz) n := nsum_get (f := fun j => (x j).sz) hj
  have h5 : (r j).sz ≤ nsum (fun j => (r j).sz) n := nsum_get (f := fun j => (r j).sz) hj
  have := hz j hj
  omega
theorem CertifyUnbounded_ok {p : Pr} (hp : p.H) {x r y : Nat → RR} {n m k : Nat} (hx : XH x n) (hr : XH r m) (hy : XH y k) (hsx : nsum (fun j => (x j).sz) n ≤ 1048576) (hsr : nsum (fun j => (r j).sz) m ≤ 1048576) (K : Int) (hK : 0 ≤ K ∧ K ≤ 65535) :
    ACall Tryz.prog 7 [p.a, rats x n, rats r m, rats y k, .f (.int .u16 K)] (.f (.bool true)) := by
  have aw := awake12_ok
  have sm := lawSmall12_ok hp
  have un := cUnbounded_ok hp hx hr
  cases hs : smallB p with
  | false =>
    rw [hs] at sm
    refine acall_rule env [0, 1, 2, 3, 4, 5, 10, 11, 12, 13, 15, 25, 33] Tryz.func7 rfl rfl rfl rfl ?_
    conv => whnf
    first | refine callF sm ⟨.refl _, trivial⟩ (by trivial) rfl ?_ | ((repeat (refine ⟨by kernel_rfl, ?_⟩; (conv => whnf))); refine callF sm ⟨.refl _, trivial⟩ (by trivial) rfl ?_)
    conv => whnf
    first | refine callF aw trivial (by trivial) rfl ?_ | ((repeat (refine ⟨by kernel_rfl, ?_⟩; (conv => whnf))); refine callF aw trivial (by trivial) rfl ?_)
    conv => whnf
    (repeat (refine ⟨by kernel_rfl, ?_⟩; (conv => whnf)))
    refine ⟨(by (try simp only [true_and, and_true, Nat.sub_zero, Nat.zero_add, Int.toNat_natCast]) <;> omega), ?_⟩
    exact .refl _
  | true =>
  rw [hs] at sm
  cases hu : p.unb x n r m with
  | false =>
    rw [hu] at un
    refine acall_rule env [0, 1, 2, 3, 4, 5, 10, 11, 12, 13, 15, 25, 33] Tryz.func7 rfl rfl rfl rfl ?_
    conv => whnf
    first | refine callF sm ⟨.refl _, trivial⟩ (by trivial) rfl ?_ | ((repeat (refine ⟨by kernel_rfl, ?_⟩; (conv => whnf))); refine callF sm ⟨.refl _, trivial⟩ (by trivial) rfl ?_)
    conv => whnf
    first | refine callF un ⟨.refl _, .refl _, .refl _, trivial⟩ (by trivial) rfl ?_ | ((repeat (refine ⟨by kernel_rfl, ?_⟩; (conv => whnf))); refine callF un ⟨.refl _, .refl _, .refl _, trivial⟩ (by trivial) rfl ?_)
    conv => whnf
    first | refine callF aw trivial (by trivial) rfl ?_ | ((repeat (refine ⟨by kernel_rfl, ?_⟩; (conv => whnf))); refine callF aw trivial (by trivial) rfl ?_)
    conv => whnf
    (repeat (refine ⟨by kernel_rfl, ?_⟩; (conv => whnf)))
    refine ⟨(by (try simp only [true_and, and_true, Nat.sub_zero, Nat.zero_add, Int.toNat_natCast]) <;> omega), ?_⟩
    exact .refl _
  | true =>
  rw [hu] at un
  unfold Pr.unb at hu
  simp only [Bool.and_eq_true, decide_eq_true_eq] at hu
  obtain ⟨⟨hf, hm⟩, hray⟩ := hu
  obtain ⟨he, hn, _⟩ := feas_facts hf
  obtain ⟨b1, b2, _, _⟩ := Pr.err_facts he
  subst hm
  subst hn
  have hno : p.bndOk y k = false := ray_no hf hray
  have bd := refBound_ok hp hy
  rw [bndRes, hno, if_neg (by simp)] at bd
  have fi := sFromInt_ok K (by omega)
  obtain ⟨T, hT⟩ : ∃ T : Rat, ((K : Int) : Rat) = T := ⟨_, rfl⟩
  have hTz : rsz T ≤ 1 := by rw [← hT]; exact rsz_small (by omega)
  have hT0 : 0 ≤ T := by rw [← hT]; exact Rat.intCast_nonneg.2 hK.1
  have hT1 : K ≠ 0 → 0 < T := fun h => by rw [← hT]; exact Rat.intCast_pos.2 (by omega)
  rw [hT] at fi
  have hF := far_xh hx hr hsx hsr hTz (by omega)
  have hFv : ∀ j, j < p.nc → (farR x r T j).v = (x j).v + T * (r j).v := fun j _ => RR.of_v _
  have hfF := ray_feas hf hray hT0 hFv
  have f2 := refFeasible_ok hp hF
  rw [hfF] at f2
  have o1 := refObjective_ok hp hx (errS_zero.2 ⟨he, rfl⟩)
  have o2 := refObjective_ok hp hF (errS_zero.2 ⟨he, rfl⟩)
  have z1 := obj_sz hp hx he rfl
  have z2 := obj_sz hp hF he rfl
  have c1 := sCompare_ok (isR_rat _ z2) (isR_rat _ z1) (by omega)
  have ho := obj_ray hFv
  have hneg := (ray_facts hray).2.2
  have hC : rcmp (p.obj (farR x r T)) (p.obj x) ≤ 0 := by
    rw [rcmp_le, ho]
    have := ray_le hT0 (show ¬ 0 < p.obj r by grind)
    grind
  have hC2 : K ≠ 0 → rcmp (p.obj (farR x r T)) (p.obj x) < 0 := fun h => by
    have h1 := hT1 h
    have h2 : 0 < T * (-(p.obj r)) := Rat.mul_pos h1 (by grind)
    rw [rcmp_lt (by rw [ho]; grind)]; decide
  have hE : ∀ j, farR x r T j = RR.of ((x j).v + T * (r j).v) := fun j => rfl
  have mt := fun j (hj : j < p.nc) => sMul_ok (isR_rat T hTz) (hr.ok j hj).is (by have := hr.s j hj; omega)
  have zt := fun j (hj : j < p.nc) => rsz_mul hTz (hr.ok j hj).size
  have ad := fun j (hj : j < p.nc) => sAdd_ok (hx.ok j hj).is (isR_rat _ (zt j hj)) (by have := hr.s j hj; have := hx.s j hj; omega)
  clear ho hneg hray hFv hfF
  generalize rcmp (p.obj (farR x r T)) (p.obj x) = C at *
  generalize p.obj (farR x r T) = O2 at *
  generalize p.obj x = O1 at *
  generalize farR x r T = F at *
  obtain ⟨v, rfl⟩ : ∃ v : Nat, K = v := ⟨K.toNat, by omega⟩
  refine acall_rule env [0, 1, 2, 3, 4, 5, 10, 11, 12, 13, 15, 25, 33] Tryz.func7 rfl rfl rfl rfl ?_
  conv => whnf
  first | refine callF sm ⟨.refl _, trivial⟩ (by trivial) rfl ?_ | ((repeat (refine ⟨by kernel_rfl, ?_⟩; (conv => whnf))); refine callF sm ⟨.refl _, trivial⟩ (by trivial) rfl ?_)
  conv => whnf
  first | refine callF un ⟨.refl _, .refl _, .refl _, trivial⟩ (by trivial) rfl ?_ | ((repeat (refine ⟨by kernel_rfl, ?_⟩; (conv => whnf))); refine callF un ⟨.refl _, .refl _, .refl _, trivial⟩ (by trivial) rfl ?_)
  conv => whnf
  refine sumi64 v rfl (by omega) ?_
  conv => whnf
  first | refine callF fi ⟨.refl _, trivial⟩ (by trivial) rfl ?_ | ((repeat (refine ⟨by kernel_rfl, ?_⟩; (conv => whnf))); refine callF fi ⟨.refl _, trivial⟩ (by trivial) rfl ?_)
  conv => whnf
  refine .weak (nil_weak 12 49 3 (by decide) rfl rfl) ?_
  refine loop_mod [1, 2, 3, 4, 5, 10, 11, 12, 13] [5, 11, 49] [1, 3, 4, 5, 10, 12] [5, 49]
    (fun μ fr hp_ => ∃ i : Nat, i ≤ p.nc ∧ fr = [(1, rats x p.nc), (2, rats r p.nc), (3, rats y k), (4, .f (.int .u16 v)), bpk 5 2, (10, .f (.bool false)), bp3 11, (12, .lsl 49 1 3 0 i none), (13, .f (.int .i64 i))] ∧
      hp_ = [bxk 5 [.f (.sl 11 (fun j => (p.c j).c) p.nc none), .f (.sl 5 (fun i => (p.r i).c) p.nr none)], bx3 11 (ratL T), (49, 1, .fa 3 i (fun j => (F j).c))] ∧ μ = p.nc - i)
    (fun e fr hp_ => e = .exit 0 ∧ fr = [(1, rats x p.nc), (3, rats y k), (4, .f (.int .u16 v)), bpk 5 2, (10, .f (.bool false)), (12, .lsl 49 1 3 0 p.nc none)] ∧
      hp_ = [bxk 5 [.f (.sl 11 (fun j => (p.c j).c) p.nc none), .f (.sl 5 (fun i => (p.r i).c) p.nr none)], (49, 1, .fa 3 p.nc (fun j => (F j).c))])
    ⟨_, _, _, _, rfl, ?_, 0, Nat.zero_le _, rfl, rfl, rfl⟩ ?_ ?_
  · exact ⟨⟨rfl, rfl⟩, .refl _, ⟨rfl, rfl⟩, .refl _, ⟨rfl, rfl⟩, .fa fun j hj => absurd hj (Nat.not_lt_zero _), trivial⟩
  · rintro _ _ _ ⟨rfl, rfl, rfl⟩
    conv => whnf
    first | refine callF bd ⟨.refl _, .refl _, trivial⟩ (by trivial) rfl ?_ | ((repeat (refine ⟨by kernel_rfl, ?_⟩; (conv => whnf))); refine callF bd ⟨.refl _, .refl _, trivial⟩ (by trivial) rfl ?_)
    conv => whnf
    first | refine callF aw trivial (by trivial) rfl ?_ | ((repeat (refine ⟨by kernel_rfl, ?_⟩; (conv => whnf))); refine callF aw trivial (by trivial) rfl ?_)
    conv => whnf
    refine callF f2 ⟨.refl _, .f (.sl (fun j hj => by simp only [Nat.zero_add]; exact .fle_rr _) (.inl rfl)), trivial⟩ (by simp) rfl ?_
    conv => whnf
    refine callF o2 ⟨.refl _, .f (.sl (fun j hj => by simp only [Nat.zero_add]; exact .fle_rr _) (.inl rfl)), trivial⟩ (by simp) rfl ?_
    conv => whnf
    first | refine callF o1 ⟨.refl _, .refl _, trivial⟩ (by trivial) rfl ?_ | ((repeat (refine ⟨by kernel_rfl, ?_⟩; (conv => whnf))); refine callF o1 ⟨.refl _, .refl _, trivial⟩ (by trivial) rfl ?_)
    conv => whnf
    first | refine callF c1 ⟨.refl _, .refl _, trivial⟩ (by trivial) rfl ?_ | ((repeat (refine ⟨by kernel_rfl, ?_⟩; (conv => whnf))); refine callF c1 ⟨.refl _, .refl _, trivial⟩ (by trivial) rfl ?_)
    conv => whnf
    refine splT (decide_eq_true hC) ?_
    conv => whnf
    by_cases hv : (v : Int) = 0
    · refine splT (decide_eq_true hv) ?_
      conv => whnf
      refine ⟨by kernel_rfl, ?_⟩
      conv => whnf
      (repeat (refine ⟨by kernel_rfl, ?_⟩; (conv => whnf)))
      refine ⟨(by (try simp only [true_and, and_true, Nat.sub_zero, Nat.zero_add, Int.toNat_natCast]) <;> omega), ?_⟩
      exact .refl _
    · refine splF (decide_eq_false hv) ?_
      conv => whnf
      refine callF o2 ⟨.refl _, .f (.sl (fun j hj => by simp only [Nat.zero_add]; exact .fle_rr _) (.inl rfl)), trivial⟩ (by simp) rfl ?_
      conv => whnf
      first | refine callF o1 ⟨.refl _, .refl _, trivial⟩ (by trivial) rfl ?_ | ((repeat (refine ⟨by kernel_rfl, ?_⟩; (conv => whnf))); refine callF o1 ⟨.refl _, .refl _, trivial⟩ (by trivial) rfl ?_)
      conv => whnf
      first | refine callF c1 ⟨.refl _, .refl _, trivial⟩ (by trivial) rfl ?_ | ((repeat (refine ⟨by kernel_rfl, ?_⟩; (conv => whnf))); refine callF c1 ⟨.refl _, .refl _, trivial⟩ (by trivial) rfl ?_)
      conv => whnf
      refine splT (decide_eq_true (hC2 hv)) ?_
      conv => whnf
      refine ⟨by kernel_rfl, ?_⟩
      conv => whnf
      (repeat (refine ⟨by kernel_rfl, ?_⟩; (conv => whnf)))
      refine ⟨(by (try simp only [true_and, and_true, Nat.sub_zero, Nat.zero_add, Int.toNat_natCast]) <;> omega), ?_⟩
      exact .refl _
  rintro μ _ _ ⟨i, hi, rfl, rfl, rfl⟩
  by_cases hik : i < p.nc
  · have m1 := mt i hik
    have a1 := ad i hik
    have hFi := hE i
    conv => whnf
    refine splT (by simp only [decide_eq_true_eq, decide_eq_false_iff_not, Bool.not_eq_true', Bool.not_eq_false', gt_iff_lt, ge_iff_le] <;> omega) ?_
    conv => whnf
    refine ⟨(by (try simp only [true_and, and_true, Nat.sub_zero, Nat.zero_add, Int.toNat_natCast]) <;> omega), ?_⟩
    conv => whnf
    refine ⟨(by (try simp only [true_and, and_true, Nat.sub_zero, Nat.zero_add, Int.toNat_natCast]) <;> omega), ?_⟩
    conv => whnf
    first | refine callF m1 ⟨.refl _, .refl _, trivial⟩ (by trivial) rfl ?_ | ((repeat (refine ⟨by kernel_rfl, ?_⟩; (conv => whnf))); refine callF m1 ⟨.refl _, .refl _, trivial⟩ (by trivial) rfl ?_)
    conv => whnf
    first | refine callF a1 ⟨.refl _, .refl _, trivial⟩ (by trivial) rfl ?_ | ((repeat (refine ⟨by kernel_rfl, ?_⟩; (conv => whnf))); refine callF a1 ⟨.refl _, .refl _, trivial⟩ (by trivial) rfl ?_)
    conv => whnf
    refine ⟨⟨(show 1 ≤ 3 / 3 - 0 by decide), by omega, by omega, (show (i + 1) * 56 ≤ 140737488355328 by omega)⟩, ?_⟩
    conv => whnf
    refine ⟨by kernel_rfl, ?_⟩
    conv => whnf
    refine fit64 (by omega) ?_
    conv => whnf
    refine ⟨_, ?_, _, _, [bxk 5 [.f (.sl 11 (fun j => (p.c j).c) p.nc none), .f (.sl 5 (fun i => (p.r i).c) p.nr none)], bx3 11 (ratL T), (49, 1, .fa 3 (i + 1) (fun j => (F j).c))], rfl, ⟨⟨rfl, rfl⟩, .refl _, ⟨rfl, rfl⟩, .refl _, ⟨rfl, rfl⟩, .fa fun j hj => more_rr (f := F) hj (by rw [hFi]; rfl), trivial⟩, i + 1, hik, rfl, rfl, rfl⟩
    omega
  · obtain rfl : i = p.nc := by omega
    conv => whnf
    refine splF (by simp only [decide_eq_true_eq, decide_eq_false_iff_not, Bool.not_eq_true', Bool.not_eq_false', gt_iff_lt, ge_iff_le] <;> omega) ?_
    conv => whnf
    exact ⟨_, _, _, rfl, .refl _, rfl, rfl, rfl⟩
/-- a solution as data -/
structure So where
  st : Int
  v : RR
  x : Nat → RR
  nx : Nat
  y : Nat → RR
  ny : Nat
  r : Nat → RR
  nr : Nat
  b1 : Nat → Int
  n1 : Nat
  b2 : Nat → Int
  n2 : Nat
def So.c (s : So) : List FV := [.int .i64 s.st, .bool s.v.neg, .sl 1 (fun j => [.int .u32 (s.v.g j : Nat)]) s.v.n none, .sl 1 (fun j => [.int .u32 (s.v.h j : Nat)]) s.v.m none, .sl 3 (fun j => (s.x j).c) s.nx none, .sl 3 (fun j => (s.y j).c) s.ny none, .sl 3 (fun j => (s.r j).c) s.nr none, .sl 1 (fun j => [.int .i64 (s.b1 j)]) s.n1 none, .sl 1 (fun j => [.int .i64 (s.b2 j)]) s.n2 none]
def So.a (s : So) : AV := .agg (fL s.c)
structure So.H (s : So) : Prop where
  st : I64 s.st
  v : s.v.Ok
  vs : s.v.sz ≤ 1048576
  x : XH s.x s.nx
  y : XH s.y s.ny
  r : XH s.r s.nr
def Pr.sol (p : Pr) (s : So) : Bool := if s.st = 1 then p.opt s.x s.nx s.y s.ny && decide (s.nr = 0) && decide (p.obj s.x = s.v.v) else if s.st = 2 then p.inf s.y s.ny && decide (s.v.v = 0) && decide (s.nx = 0) && decide (s.nr = 0)
  else if s.st = 3 then p.unb s.x s.nx s.r s.nr && decide (s.v.v = 0) && decide (s.ny = 0) else false
theorem cSolution_ok {p : Pr} (hp : p.H) {s : So} (hs : s.H) : ACall Tryz.prog 40 [p.a, s.a] (.f (.bool (p.sol s))) := by
  have op := cOptimal_ok hp hs.x hs.y
  have inf := cInfeasible_ok hp hs.y
  have un := cUnbounded_ok hp hs.x hs.r
  have o1 := lpObjective_ok hp hs.x
  have sg := qSign_ok hs.v.is (by have := hs.vs; omega)
  have hz : decide (rcmp s.v.v 0 = 0) = decide (s.v.v = 0) := decide_eq_decide.2 rcmp_zero
  have hnx := hs.x.n
  have hny := hs.y.n
  have hnr := hs.r.n
  unfold Pr.sol
  by_cases h1 : s.st = 1
  · rw [if_pos h1]
    cases ho : p.opt s.x s.nx s.y s.ny with
    | false =>
      rw [ho] at op
      refine acall_rule env [0, 1, 2, 3, 4, 5, 8, 9, 23, 36, 60] Tryz.func40 rfl rfl rfl rfl ?_
      conv => whnf
      refine splT (decide_eq_true h1) ?_
      conv => whnf
      first | refine callF op ⟨.refl _, .refl _, .refl _, trivial⟩ (by trivial) rfl ?_ | ((repeat (refine ⟨by kernel_rfl, ?_⟩; (conv => whnf))); refine callF op ⟨.refl _, .refl _, .refl _, trivial⟩ (by trivial) rfl ?_)
      conv => whnf
      (repeat (refine ⟨by kernel_rfl, ?_⟩; (conv => whnf)))
      refine ⟨(by (try simp only [true_and, and_true, Nat.sub_zero, Nat.zero_add, Int.toNat_natCast]) <;> omega), ?_⟩
      exact .refl _
    | true =>
    rw [ho] at op
    by_cases hr : s.nr = 0
    · unfold Pr.opt at ho
      simp only [Bool.and_eq_true, decide_eq_true_eq] at ho
      obtain ⟨he, hn, _⟩ := feas_facts ho.1.1
      rw [objRes, if_neg (fun h => h (errS_zero.2 ⟨he, hn⟩))] at o1
      have hoz := obj_sz hp hs.x he hn
      have c1 := qCompare_ok (isR_rat _ hoz) hs.v.is (by have := hs.vs; omega)
      have hc : decide (rcmp (p.obj s.x) s.v.v = 0) = decide (p.obj s.x = s.v.v) := decide_eq_decide.2 rcmp_zero
      generalize rcmp (p.obj s.x) s.v.v = C at *
      refine acall_rule env [0, 1, 2, 3, 4, 5, 8, 9, 23, 36, 60] Tryz.func40 rfl rfl rfl rfl ?_
      conv => whnf
      refine splT (decide_eq_true h1) ?_
      conv => whnf
      first | refine callF op ⟨.refl _, .refl _, .refl _, trivial⟩ (by trivial) rfl ?_ | ((repeat (refine ⟨by kernel_rfl, ?_⟩; (conv => whnf))); refine callF op ⟨.refl _, .refl _, .refl _, trivial⟩ (by trivial) rfl ?_)
      conv => whnf
      refine splF (by simp; omega) ?_
      conv => whnf
      first | refine callF o1 ⟨.refl _, .refl _, trivial⟩ (by trivial) rfl ?_ | ((repeat (refine ⟨by kernel_rfl, ?_⟩; (conv => whnf))); refine callF o1 ⟨.refl _, .refl _, trivial⟩ (by trivial) rfl ?_)
      conv => whnf
      first | refine callF c1 ⟨.refl _, .refl _, trivial⟩ (by trivial) rfl ?_ | ((repeat (refine ⟨by kernel_rfl, ?_⟩; (conv => whnf))); refine callF c1 ⟨.refl _, .refl _, trivial⟩ (by trivial) rfl ?_)
      conv => whnf
      refine ⟨(by (try simp only [true_and, and_true, Nat.sub_zero, Nat.zero_add, Int.toNat_natCast]) <;> omega), ?_⟩
      exact .bool_of (by rw [hc, decide_eq_true hr]; rfl)
    · rw [decide_eq_false hr, Bool.and_false, Bool.false_and]
      refine acall_rule env [0, 1, 2, 3, 4, 5, 8, 9, 23, 36, 60] Tryz.func40 rfl rfl rfl rfl ?_
      conv => whnf
      refine splT (decide_eq_true h1) ?_
      conv => whnf
      first | refine callF op ⟨.refl _, .refl _, .refl _, trivial⟩ (by trivial) rfl ?_ | ((repeat (refine ⟨by kernel_rfl, ?_⟩; (conv => whnf))); refine callF op ⟨.refl _, .refl _, .refl _, trivial⟩ (by trivial) rfl ?_)
      conv => whnf
      refine splT (by simp; omega) ?_
      conv => whnf
      (repeat (refine ⟨by kernel_rfl, ?_⟩; (conv => whnf)))
      refine ⟨(by (try simp only [true_and, and_true, Nat.sub_zero, Nat.zero_add, Int.toNat_natCast]) <;> omega), ?_⟩
      exact .refl _
  rw [if_neg h1]
  by_cases h2 : s.st = 2
  · rw [if_pos h2]
    rw [← hz]
    generalize rcmp s.v.v 0 = C at *
    cases hi : p.inf s.y s.ny with
    | false =>
      rw [hi] at inf
      refine acall_rule env [0, 1, 2, 3, 4, 5, 8, 9, 23, 36, 60] Tryz.func40 rfl rfl rfl rfl ?_
      conv => whnf
      refine splF (decide_eq_false h1) ?_
      conv => whnf
      refine splT (decide_eq_true h2) ?_
      conv => whnf
      first | refine callF inf ⟨.refl _, .refl _, trivial⟩ (by trivial) rfl ?_ | ((repeat (refine ⟨by kernel_rfl, ?_⟩; (conv => whnf))); refine callF inf ⟨.refl _, .refl _, trivial⟩ (by trivial) rfl ?_)
      conv => whnf
      (repeat (refine ⟨by kernel_rfl, ?_⟩; (conv => whnf)))
      refine ⟨(by (try simp only [true_and, and_true, Nat.sub_zero, Nat.zero_add, Int.toNat_natCast]) <;> omega), ?_⟩
      exact .refl _
    | true =>
    rw [hi] at inf
    by_cases hC : C = 0
    · by_cases hx : s.nx = 0
      · refine acall_rule env [0, 1, 2, 3, 4, 5, 8, 9, 23, 36, 60] Tryz.func40 rfl rfl rfl rfl ?_
        conv => whnf
        refine splF (decide_eq_false h1) ?_
        conv => whnf
        refine splT (decide_eq_true h2) ?_
        conv => whnf
        first | refine callF inf ⟨.refl _, .refl _, trivial⟩ (by trivial) rfl ?_ | ((repeat (refine ⟨by kernel_rfl, ?_⟩; (conv => whnf))); refine callF inf ⟨.refl _, .refl _, trivial⟩ (by trivial) rfl ?_)
        conv => whnf
        first | refine callF sg ⟨.refl _, trivial⟩ (by trivial) rfl ?_ | ((repeat (refine ⟨by kernel_rfl, ?_⟩; (conv => whnf))); refine callF sg ⟨.refl _, trivial⟩ (by trivial) rfl ?_)
        conv => whnf
        refine splT (decide_eq_true hC) ?_
        conv => whnf
        refine splT (by simp; omega) ?_
        conv => whnf
        refine ⟨(by (try simp only [true_and, and_true, Nat.sub_zero, Nat.zero_add, Int.toNat_natCast]) <;> omega), ?_⟩
        exact .bool_of (by rw [decide_eq_true hC, decide_eq_true hx]; exact decide_eq_decide.2 (by omega))
      · refine acall_rule env [0, 1, 2, 3, 4, 5, 8, 9, 23, 36, 60] Tryz.func40 rfl rfl rfl rfl ?_
        conv => whnf
        refine splF (decide_eq_false h1) ?_
        conv => whnf
        refine splT (decide_eq_true h2) ?_
        conv => whnf
        first | refine callF inf ⟨.refl _, .refl _, trivial⟩ (by trivial) rfl ?_ | ((repeat (refine ⟨by kernel_rfl, ?_⟩; (conv => whnf))); refine callF inf ⟨.refl _, .refl _, trivial⟩ (by trivial) rfl ?_)
        conv => whnf
        first | refine callF sg ⟨.refl _, trivial⟩ (by trivial) rfl ?_ | ((repeat (refine ⟨by kernel_rfl, ?_⟩; (conv => whnf))); refine callF sg ⟨.refl _, trivial⟩ (by trivial) rfl ?_)
        conv => whnf
        refine splT (decide_eq_true hC) ?_
        conv => whnf
        refine splF (by simp; omega) ?_
        conv => whnf
        refine ⟨(by (try simp only [true_and, and_true, Nat.sub_zero, Nat.zero_add, Int.toNat_natCast]) <;> omega), ?_⟩
        exact .bool_of (by simp [hx])
    · refine acall_rule env [0, 1, 2, 3, 4, 5, 8, 9, 23, 36, 60] Tryz.func40 rfl rfl rfl rfl ?_
      conv => whnf
      refine splF (decide_eq_false h1) ?_
      conv => whnf
      refine splT (decide_eq_true h2) ?_
      conv => whnf
      first | refine callF inf ⟨.refl _, .refl _, trivial⟩ (by trivial) rfl ?_ | ((repeat (refine ⟨by kernel_rfl, ?_⟩; (conv => whnf))); refine callF inf ⟨.refl _, .refl _, trivial⟩ (by trivial) rfl ?_)
      conv => whnf
      first | refine callF sg ⟨.refl _, trivial⟩ (by trivial) rfl ?_ | ((repeat (refine ⟨by kernel_rfl, ?_⟩; (conv => whnf))); refine callF sg ⟨.refl _, trivial⟩ (by trivial) rfl ?_)
      conv => whnf
      refine splF (decide_eq_false hC) ?_
      conv => whnf
      refine ⟨(by (try simp only [true_and, and_true, Nat.sub_zero, Nat.zero_add, Int.toNat_natCast]) <;> omega), ?_⟩
      exact .bool_of (by simp [hC])
  rw [if_neg h2]
  by_cases h3 : s.st = 3
  · rw [if_pos h3]
    rw [← hz]
    generalize rcmp s.v.v 0 = C at *
    cases hi : p.unb s.x s.nx s.r s.nr with
    | false =>
      rw [hi] at un
      refine acall_rule env [0, 1, 2, 3, 4, 5, 8, 9, 23, 36, 60] Tryz.func40 rfl rfl rfl rfl ?_
      conv => whnf
      refine splF (decide_eq_false h1) ?_
      conv => whnf
      refine splF (decide_eq_false h2) ?_
      conv => whnf
      refine splT (decide_eq_true h3) ?_
      conv => whnf
      first | refine callF un ⟨.refl _, .refl _, .refl _, trivial⟩ (by trivial) rfl ?_ | ((repeat (refine ⟨by kernel_rfl, ?_⟩; (conv => whnf))); refine callF un ⟨.refl _, .refl _, .refl _, trivial⟩ (by trivial) rfl ?_)
      conv => whnf
      (repeat (refine ⟨by kernel_rfl, ?_⟩; (conv => whnf)))
      refine ⟨(by (try simp only [true_and, and_true, Nat.sub_zero, Nat.zero_add, Int.toNat_natCast]) <;> omega), ?_⟩
      exact .refl _
    | true =>
    rw [hi] at un
    by_cases hC : C = 0
    · refine acall_rule env [0, 1, 2, 3, 4, 5, 8, 9, 23, 36, 60] Tryz.func40 rfl rfl rfl rfl ?_
      conv => whnf
      refine splF (decide_eq_false h1) ?_
      conv => whnf
      refine splF (decide_eq_false h2) ?_
      conv => whnf
      refine splT (decide_eq_true h3) ?_
      conv => whnf
      first | refine callF un ⟨.refl _, .refl _, .refl _, trivial⟩ (by trivial) rfl ?_ | ((repeat (refine ⟨by kernel_rfl, ?_⟩; (conv => whnf))); refine callF un ⟨.refl _, .refl _, .refl _, trivial⟩ (by trivial) rfl ?_)
      conv => whnf
      first | refine callF sg ⟨.refl _, trivial⟩ (by trivial) rfl ?_ | ((repeat (refine ⟨by kernel_rfl, ?_⟩; (conv => whnf))); refine callF sg ⟨.refl _, trivial⟩ (by trivial) rfl ?_)
      conv => whnf
      refine splT (decide_eq_true hC) ?_
      conv => whnf
      refine ⟨(by (try simp only [true_and, and_true, Nat.sub_zero, Nat.zero_add, Int.toNat_natCast]) <;> omega), ?_⟩
      exact .bool_of (by rw [decide_eq_true hC]; exact decide_eq_decide.2 (by omega))
    · refine acall_rule env [0, 1, 2, 3, 4, 5, 8, 9, 23, 36, 60] Tryz.func40 rfl rfl rfl rfl ?_
      conv => whnf
      refine splF (decide_eq_false h1) ?_
      conv => whnf
      refine splF (decide_eq_false h2) ?_
      conv => whnf
      refine splT (decide_eq_true h3) ?_
      conv => whnf
      first | refine callF un ⟨.refl _, .refl _, .refl _, trivial⟩ (by trivial) rfl ?_ | ((repeat (refine ⟨by kernel_rfl, ?_⟩; (conv => whnf))); refine callF un ⟨.refl _, .refl _, .refl _, trivial⟩ (by trivial) rfl ?_)
      conv => whnf
      first | refine callF sg ⟨.refl _, trivial⟩ (by trivial) rfl ?_ | ((repeat (refine ⟨by kernel_rfl, ?_⟩; (conv => whnf))); refine callF sg ⟨.refl _, trivial⟩ (by trivial) rfl ?_)
      conv => whnf
      refine splF (decide_eq_false hC) ?_
      conv => whnf
      refine ⟨(by (try simp only [true_and, and_true, Nat.sub_zero, Nat.zero_add, Int.toNat_natCast]) <;> omega), ?_⟩
      exact .bool_of (by simp [hC])
  · rw [if_neg h3]
    refine acall_rule env [0, 1, 2, 3, 4, 5, 8, 9, 23, 36, 60] Tryz.func40 rfl rfl rfl rfl ?_
    conv => whnf
    refine splF (decide_eq_false h1) ?_
    conv => whnf
    refine splF (decide_eq_false h2) ?_
    conv => whnf
    refine splF (decide_eq_false h3) ?_
    conv => whnf
    (repeat (refine ⟨by kernel_rfl, ?_⟩; (conv => whnf)))
    refine ⟨(by (try simp only [true_and, and_true, Nat.sub_zero, Nat.zero_add, Int.toNat_natCast]) <;> omega), ?_⟩
    exact .refl _
theorem inf_no {p : Pr} {x y : Nat → RR} {n m : Nat} (h : p.inf y m = true) : p.feas x n = false := by
  unfold Pr.inf at h
  simp only [Bool.and_eq_true, decide_eq_true_eq] at h
  cases hf : p.feas x n with
  | false => rfl
  | true =>
    have h2 := weak_duality (p := p.free) (by rw [Pr.free_feas]; exact hf) h.1
    rw [Pr.free_obj] at h2
    exact absurd h2 (Rat.not_le.2 h.2)
theorem one_status {p : Pr} {a b : So} (ha : p.sol a = true) (hb : p.sol b = true) : a.st = b.st ∧ a.v.v = b.v.v := by
  unfold Pr.sol at ha hb
  split at ha
  · rename_i a1
    simp only [Bool.and_eq_true, decide_eq_true_eq, Pr.opt] at ha
    obtain ⟨⟨⟨⟨fa, ba⟩, ea⟩, _⟩, va⟩ := ha
    split at hb
    · rename_i b1
      simp only [Bool.and_eq_true, decide_eq_true_eq, Pr.opt] at hb
      obtain ⟨⟨⟨⟨fb, bb⟩, eb⟩, _⟩, vb⟩ := hb
      have h1 := weak_duality fa bb
      have h2 := weak_duality fb ba
      refine ⟨by omega, ?_⟩
      grind
    · split at hb
      · simp only [Bool.and_eq_true, decide_eq_true_eq] at hb
        rw [inf_no hb.1.1.1] at fa; cases fa
      · split at hb
        · simp only [Bool.and_eq_true, decide_eq_true_eq, Pr.unb] at hb
          rw [ray_no hb.1.1.1.1 hb.1.1.2] at ba; cases ba
        · cases hb
  · split at ha
    · rename_i a2
      simp only [Bool.and_eq_true, decide_eq_true_eq] at ha
      split at hb
      · simp only [Bool.and_eq_true, decide_eq_true_eq, Pr.opt] at hb
        rw [inf_no ha.1.1.1] at hb; simp at hb
      · split at hb
        · rename_i b2
          simp only [Bool.and_eq_true, decide_eq_true_eq] at hb
          exact ⟨by omega, by rw [ha.1.1.2, hb.1.1.2]⟩
        · split at hb
          · simp only [Bool.and_eq_true, decide_eq_true_eq, Pr.unb] at hb
            rw [inf_no ha.1.1.1] at hb; simp at hb
          · cases hb
    · split at ha
      · rename_i a3
        simp only [Bool.and_eq_true, decide_eq_true_eq, Pr.unb] at ha
        split at hb
        · simp only [Bool.and_eq_true, decide_eq_true_eq, Pr.opt] at hb
          rw [ray_no ha.1.1.1.1 ha.1.1.2] at hb; simp at hb
        · split at hb
          · simp only [Bool.and_eq_true, decide_eq_true_eq] at hb
            rw [inf_no hb.1.1.1] at ha; simp at ha
          · split at hb
            · rename_i b3
              simp only [Bool.and_eq_true, decide_eq_true_eq] at hb
              exact ⟨by omega, by rw [ha.1.2, hb.1.2]⟩
            · cases hb
      · cases ha
theorem CertifyOneStatus_ok {p : Pr} (hp : p.H) {a b : So} (ha : a.H) (hb : b.H) : ACall Tryz.prog 9 [p.a, a.a, b.a] (.f (.bool true)) := by
  have aw := awake12_ok
  have sm := lawSmall12_ok hp
  have s1 := cSolution_ok hp ha
  have s2 := cSolution_ok hp hb
  cases hs : smallB p with
  | false =>
    rw [hs] at sm
    refine acall_rule env [0, 1, 2, 3, 4, 5, 6, 21] Tryz.func9 rfl rfl rfl rfl ?_
    conv => whnf
    first | refine callF sm ⟨.refl _, trivial⟩ (by trivial) rfl ?_ | ((repeat (refine ⟨by kernel_rfl, ?_⟩; (conv => whnf))); refine callF sm ⟨.refl _, trivial⟩ (by trivial) rfl ?_)
    conv => whnf
    first | refine callF aw trivial (by trivial) rfl ?_ | ((repeat (refine ⟨by kernel_rfl, ?_⟩; (conv => whnf))); refine callF aw trivial (by trivial) rfl ?_)
    conv => whnf
    (repeat (refine ⟨by kernel_rfl, ?_⟩; (conv => whnf)))
    refine ⟨(by (try simp only [true_and, and_true, Nat.sub_zero, Nat.zero_add, Int.toNat_natCast]) <;> omega), ?_⟩
    exact .refl _
  | true =>
  rw [hs] at sm
  cases h1 : p.sol a with
  | false =>
    rw [h1] at s1
    refine acall_rule env [0, 1, 2, 3, 4, 5, 6, 21] Tryz.func9 rfl rfl rfl rfl ?_
    conv => whnf
    first | refine callF sm ⟨.refl _, trivial⟩ (by trivial) rfl ?_ | ((repeat (refine ⟨by kernel_rfl, ?_⟩; (conv => whnf))); refine callF sm ⟨.refl _, trivial⟩ (by trivial) rfl ?_)
    conv => whnf
    first | refine callF s1 ⟨.refl _, .refl _, trivial⟩ (by trivial) rfl ?_ | ((repeat (refine ⟨by kernel_rfl, ?_⟩; (conv => whnf))); refine callF s1 ⟨.refl _, .refl _, trivial⟩ (by trivial) rfl ?_)
    conv => whnf
    first | refine callF aw trivial (by trivial) rfl ?_ | ((repeat (refine ⟨by kernel_rfl, ?_⟩; (conv => whnf))); refine callF aw trivial (by trivial) rfl ?_)
    conv => whnf
    (repeat (refine ⟨by kernel_rfl, ?_⟩; (conv => whnf)))
    refine ⟨(by (try simp only [true_and, and_true, Nat.sub_zero, Nat.zero_add, Int.toNat_natCast]) <;> omega), ?_⟩
    exact .refl _
  | true =>
  rw [h1] at s1
  cases h2 : p.sol b with
  | false =>
    rw [h2] at s2
    refine acall_rule env [0, 1, 2, 3, 4, 5, 6, 21] Tryz.func9 rfl rfl rfl rfl ?_
    conv => whnf
    first | refine callF sm ⟨.refl _, trivial⟩ (by trivial) rfl ?_ | ((repeat (refine ⟨by kernel_rfl, ?_⟩; (conv => whnf))); refine callF sm ⟨.refl _, trivial⟩ (by trivial) rfl ?_)
    conv => whnf
    first | refine callF s1 ⟨.refl _, .refl _, trivial⟩ (by trivial) rfl ?_ | ((repeat (refine ⟨by kernel_rfl, ?_⟩; (conv => whnf))); refine callF s1 ⟨.refl _, .refl _, trivial⟩ (by trivial) rfl ?_)
    conv => whnf
    first | refine callF s2 ⟨.refl _, .refl _, trivial⟩ (by trivial) rfl ?_ | ((repeat (refine ⟨by kernel_rfl, ?_⟩; (conv => whnf))); refine callF s2 ⟨.refl _, .refl _, trivial⟩ (by trivial) rfl ?_)
    conv => whnf
    first | refine callF aw trivial (by trivial) rfl ?_ | ((repeat (refine ⟨by kernel_rfl, ?_⟩; (conv => whnf))); refine callF aw trivial (by trivial) rfl ?_)
    conv => whnf
    (repeat (refine ⟨by kernel_rfl, ?_⟩; (conv => whnf)))
    refine ⟨(by (try simp only [true_and, and_true, Nat.sub_zero, Nat.zero_add, Int.toNat_natCast]) <;> omega), ?_⟩
    exact .refl _
  | true =>
  rw [h2] at s2
  obtain ⟨e1, e2⟩ := one_status h1 h2
  have c1 := sCompare_ok ha.v.is hb.v.is (by have := ha.vs; have := hb.vs; omega)
  have hC : rcmp a.v.v b.v.v = 0 := rcmp_zero.2 e2
  rw [hC] at c1
  refine acall_rule env [0, 1, 2, 3, 4, 5, 6, 21] Tryz.func9 rfl rfl rfl rfl ?_
  conv => whnf
  first | refine callF sm ⟨.refl _, trivial⟩ (by trivial) rfl ?_ | ((repeat (refine ⟨by kernel_rfl, ?_⟩; (conv => whnf))); refine callF sm ⟨.refl _, trivial⟩ (by trivial) rfl ?_)
  conv => whnf
  first | refine callF s1 ⟨.refl _, .refl _, trivial⟩ (by trivial) rfl ?_ | ((repeat (refine ⟨by kernel_rfl, ?_⟩; (conv => whnf))); refine callF s1 ⟨.refl _, .refl _, trivial⟩ (by trivial) rfl ?_)
  conv => whnf
  first | refine callF s2 ⟨.refl _, .refl _, trivial⟩ (by trivial) rfl ?_ | ((repeat (refine ⟨by kernel_rfl, ?_⟩; (conv => whnf))); refine callF s2 ⟨.refl _, .refl _, trivial⟩ (by trivial) rfl ?_)
  conv => whnf
  first | refine callF aw trivial (by trivial) rfl ?_ | ((repeat (refine ⟨by kernel_rfl, ?_⟩; (conv => whnf))); refine callF aw trivial (by trivial) rfl ?_)
  conv => whnf
  refine splT (decide_eq_true e1) ?_
  conv => whnf
  first | refine callF c1 ⟨.refl _, .refl _, trivial⟩ (by trivial) rfl ?_ | ((repeat (refine ⟨by kernel_rfl, ?_⟩; (conv => whnf))); refine callF c1 ⟨.refl _, .refl _, trivial⟩ (by trivial) rfl ?_)
  conv => whnf
  (repeat (refine ⟨by kernel_rfl, ?_⟩; (conv => whnf)))
  refine ⟨(by (try simp only [true_and, and_true, Nat.sub_zero, Nat.zero_add, Int.toNat_natCast]) <;> omega), ?_⟩
  exact .refl _
end Go.Abs

/- What comes in: lists of limbs, integers. -/
set_option autoImplicit false
set_option maxHeartbeats 4000000
set_option linter.unusedVariables false
set_option linter.unusedSimpArgs false
namespace Go.Abs
open Go Go.Proofs

theorem dec_limbs {c : List FV} {n : Nat} (h : Fits tab 30 c n) : ∃ (g : Nat → Nat) (m : Nat), Dig g m ∧ m + 1 ≤ n ∧ All2 FVle c [.sl 1 (fun j => [.int .u32 (g j : Nat)]) m none] := by
  obtain ⟨te, at_, len, bs, he, rfl, hel, hn⟩ := h.inv rfl
  have hte : te = ⟨.int .u32, 1, 4, [.int .u32 0]⟩ := by cases he; rfl
  have hx : ∀ i, i < len → ∃ x : Nat, x < 4294967296 ∧ at_ i = [.int .u32 (x : Int)] := by
    intro i hi
    have := (hel i hi).inv he
    subst hte
    obtain ⟨z, h1, h2, h3⟩ := this
    refine ⟨z.toNat, ?_, ?_⟩
    · have : z ≤ 4294967295 := h3
      have : 0 ≤ z := h2
      omega
    · have : 0 ≤ z := h2
      rw [h1, Int.toNat_of_nonneg this]
  obtain ⟨g, hg⟩ := pickF hx
  refine ⟨g, len, fun i hi => (hg i hi).1, ?_, ?_, trivial⟩
  · have := len_le_sumTo (bs := bs) (n := len) fun i hi => (hel i hi).pos
    omega
  · subst hte
    refine .sl (fun i hi => ?_) (.inl rfl)
    rw [(hg i hi).2]
    exact ⟨.refl _, trivial⟩

theorem dec_Int {c : List FV} {n : Nat} (h : Fits tab 32 c n) : ∃ (neg : Bool) (g : Nat → Nat) (m : Nat), Dig g m ∧ m + 1 ≤ n ∧ All2 FVle c [.bool neg, .sl 1 (fun j => [.int .u32 (g j : Nat)]) m none] := by
  obtain ⟨m0, hf, hn⟩ := h.inv rfl
  obtain ⟨a, b, c1, c2, h1, h2, rfl, rfl⟩ := hf.inv
  obtain ⟨a2, b2, c3, c4, h3, h4, rfl, rfl⟩ := h2.inv
  obtain ⟨rfl, rfl⟩ := h4.inv0
  obtain ⟨neg, rfl⟩ := h1.inv rfl
  obtain ⟨g, m, hg, hm, hle⟩ := dec_limbs h3
  refine ⟨neg, g, m, hg, by omega, ?_⟩
  rw [List.append_nil]
  exact ⟨.refl _, hle⟩

theorem all2_fle_fL : ∀ {c c' : List FV}, All2 FVle c c' → All2 AVle (fL c) (fL c')
  | [], [], _ => by simp [fL, All2]
  | x :: r, y :: r', ⟨a, b⟩ => by simp only [fL]; exact ⟨.f a, all2_fle_fL b⟩
  | [], _ :: _, h => h.elim
  | _ :: _, [], h => h.elim
theorem AVle.of_fL {c c' : List FV} (h : All2 FVle c c') : AVle (.agg (fL c)) (.agg (fL c')) := .agg (all2_fle_fL h)
theorem par_Int {c : List FV} {n : Nat} (h : Fits tab 32 c n) : ∃ (x : AV) (z : Int), IsI x z n ∧ AVle (.agg (fL c)) x := by
  obtain ⟨neg, g, m, hg, hm, hle⟩ := dec_Int h
  exact ⟨_, _, .mk neg g m n hg (by omega), .of_fL hle⟩
theorem par_limbs {c : FV} {n : Nat} (h : Fits tab 30 [c] n) : ∃ (g : Nat → Nat) (m : Nat), Dig g m ∧ m ≤ n ∧ AVle (.f c) (raw g m) := by
  obtain ⟨g, m, hg, hm, hle⟩ := dec_limbs h
  exact ⟨g, m, hg, by omega, .f hle.1⟩
theorem par_int {c : FV} {n : Nat} (h : Fits tab 3 [c] n) : ∃ z : Int, (-9223372036854775808 ≤ z ∧ z ≤ 9223372036854775807) ∧ AVle (.f c) (.f (.int .i64 z)) := by
  obtain ⟨z, hc, h1, h2⟩ := h.inv rfl
  cases hc
  exact ⟨z, ⟨h1, h2⟩, .refl _⟩
end Go.Abs

/- What comes in: rational numbers. -/
set_option autoImplicit false
set_option maxHeartbeats 4000000
set_option linter.unusedVariables false
set_option linter.unusedSimpArgs false
namespace Go.Abs
open Go Go.Proofs

theorem all2_app {α β : Type} {R : α → β → Prop} : ∀ {a : List α} {b : List β} {c : List α} {d : List β}, All2 R a b → All2 R c d → All2 R (a ++ c) (b ++ d)
  | [], [], _, _, _, h => h
  | _ :: _, _ :: _, _, _, ⟨h1, h2⟩, h => ⟨h1, all2_app h2 h⟩
  | [], _ :: _, _, _, h, _ => h.elim
  | _ :: _, [], _, _, h, _ => h.elim
theorem dec_Rat {c : List FV} {n : Nat} (h : Fits tab 34 c n) : ∃ (neg : Bool) (g : Nat → Nat) (m : Nat) (g' : Nat → Nat) (m' : Nat), Dig g m ∧ Dig g' m' ∧ m + m' + 3 ≤ n ∧ All2 FVle c [.bool neg, .sl 1 (fun j => [.int .u32 (g j : Nat)]) m none, .sl 1 (fun j => [.int .u32 (g' j : Nat)]) m' none] := by
  obtain ⟨m0, hf, hn⟩ := h.inv rfl
  obtain ⟨a, b, c1, c2, h1, h2, rfl, rfl⟩ := hf.inv
  obtain ⟨a2, b2, c3, c4, h3, h4, rfl, rfl⟩ := h2.inv
  obtain ⟨rfl, rfl⟩ := h4.inv0
  obtain ⟨neg, g, m, hg, hm, hle⟩ := dec_Int h1
  obtain ⟨g', m', hg', hm', hle'⟩ := dec_limbs h3
  refine ⟨neg, g, m, g', m', hg, hg', by omega, ?_⟩
  rw [List.append_nil]
  exact all2_app hle hle'
theorem par_Rat {c : List FV} {n : Nat} (h : Fits tab 34 c n) : ∃ (x : AV) (q : Rat), IsR x q n ∧ AVle (.agg (fL c)) x := by
  obtain ⟨neg, g, m, g', m', hg, hg', hm, hle⟩ := dec_Rat h
  exact ⟨_, _, .mk neg g m g' m' n hg hg' (by omega) (by omega) (by omega), .of_fL hle⟩
theorem par_uint32 {c : FV} {n : Nat} (h : Fits tab 112 [c] n) : ∃ z : Int, (0 ≤ z ∧ z ≤ 4294967295) ∧ AVle (.f c) (.f (.int .u32 z)) := by
  obtain ⟨z, hc, h1, h2⟩ := h.inv rfl
  cases hc
  exact ⟨z, ⟨h1, h2⟩, .refl _⟩
theorem par_uint8 {c : FV} {n : Nat} (h : Fits tab 5 [c] n) : ∃ z : Int, (0 ≤ z ∧ z ≤ 255) ∧ AVle (.f c) (.f (.int .u8 z)) := by
  obtain ⟨z, hc, h1, h2⟩ := h.inv rfl
  cases hc
  exact ⟨z, ⟨h1, h2⟩, .refl _⟩
theorem par_bool {c : FV} {n : Nat} (h : Fits tab 4 [c] n) : ∃ b : Bool, AVle (.f c) (.f (.bool b)) := by
  obtain ⟨b, hc⟩ := h.inv rfl
  cases hc
  exact ⟨b, .refl _⟩
end Go.Abs

/- What comes in: lists of numbers, small numbers. -/
set_option autoImplicit false
set_option maxHeartbeats 4000000
set_option linter.unusedVariables false
set_option linter.unusedSimpArgs false
namespace Go.Abs
open Go Go.Proofs

theorem par_ints {c : FV} {n : Nat} (h : Fits tab 42 [c] n) : ∃ (g : Nat → Int) (m : Nat), (∀ i, i < m → -9223372036854775808 ≤ g i ∧ g i ≤ 9223372036854775807) ∧ m ≤ n ∧ AVle (.f c) (.f (.sl 1 (fun j => [.int .i64 (g j)]) m none)) := by
  obtain ⟨te, at_, len, bs, he, hc, hel, hn⟩ := h.inv rfl
  cases hc
  have hte : te = ⟨.int .i64, 1, 8, [.int .i64 0]⟩ := by cases he; rfl
  have hx : ∀ i, i < len → ∃ x : Int, (-9223372036854775808 ≤ x ∧ x ≤ 9223372036854775807) ∧ at_ i = [.int .i64 x] := by
    intro i hi
    have := (hel i hi).inv he
    subst hte
    obtain ⟨z, h1, h2, h3⟩ := this
    exact ⟨z, ⟨h2, h3⟩, h1⟩
  obtain ⟨g, hg⟩ := pickF hx
  refine ⟨g, len, fun i hi => (hg i hi).1, ?_, .f ?_⟩
  · have := len_le_sumTo (bs := bs) (n := len) fun i hi => (hel i hi).pos
    omega
  · subst hte
    refine .sl (fun i hi => ?_) (.inl rfl)
    rw [(hg i hi).2]
    exact ⟨.refl _, trivial⟩
end Go.Abs

/- What comes in: lists of rational numbers, linear programs. -/
set_option autoImplicit false
set_option maxHeartbeats 4000000
set_option linter.unusedVariables false
set_option linter.unusedSimpArgs false
namespace Go.Abs
open Go Go.Proofs

instance : Inhabited RR := ⟨RR.nil⟩
instance : Inhabited En := ⟨⟨0, RR.nil⟩⟩
instance : Inhabited Ro := ⟨⟨0, RR.nil, fun _ => default, 0⟩⟩
instance : Inhabited Co := ⟨⟨RR.nil, false, RR.nil, false, RR.nil⟩⟩
theorem nsum_sumTo {f bs : Nat → Nat} : ∀ {n : Nat}, (∀ i, i < n → f i ≤ bs i) → nsum f n ≤ sumTo bs n
  | 0, _ => Nat.le_refl _
  | n + 1, h => by
    have := nsum_sumTo (n := n) (fun i hi => h i (by omega))
    have := h n (by omega)
    simp only [nsum, sumTo]; omega
theorem dec_RR {c : List FV} {n : Nat} (h : Fits tab 34 c n) : ∃ r : RR, (r.Ok ∧ r.sz + 1 ≤ n) ∧ All2 FVle c r.c := by
  obtain ⟨neg, g, m, g', m', hg, hg', hm, hle⟩ := dec_Rat h
  exact ⟨⟨neg, g, m, g', m'⟩, ⟨⟨hg, hg'⟩, by unfold RR.sz; simp only; omega⟩, hle⟩
theorem par_Rats {c : FV} {n : Nat} (h : Fits tab 26 [c] n) (hn : n ≤ 1048576) : ∃ (x : Nat → RR) (m : Nat), XH x m ∧ m + nsum (fun j => (x j).sz) m + 1 ≤ n ∧ AVle (.f c) (rats x m) := by
  obtain ⟨te, at_, len, bs, he, hc, hel, hs⟩ := h.inv rfl
  cases hc
  have hte : te.size = 3 := by cases he; rfl
  have hx : ∀ i, i < len → ∃ r : RR, (r.Ok ∧ r.sz + 1 ≤ bs i) ∧ All2 FVle (at_ i) r.c := fun i hi => dec_RR (hel i hi)
  obtain ⟨x, hx⟩ := pickF hx
  have h1 : nsum (fun j => (x j).sz + 1) len ≤ sumTo bs len := nsum_sumTo fun i hi => (hx i hi).1.2
  have e : nsum (fun j => (x j).sz + 1) len = nsum (fun j => (x j).sz) len + nsum (fun _ => 1) len := by rw [nsum_add]
  have e2 := nsum_const 1 len
  refine ⟨x, len, ⟨fun j hj => (hx j hj).1.1, fun j hj => ?_, by omega, by omega⟩, by omega, .f ?_⟩
  · have h3 : (x j).sz ≤ nsum (fun j => (x j).sz) len := nsum_get (f := fun j => (x j).sz) hj
    omega
  · rw [hte]
    exact .sl (fun i hi => (hx i hi).2) (.inl rfl)
theorem dec_En {c : List FV} {n : Nat} (h : Fits tab 83 c n) : ∃ e : En, (e.Ok ∧ e.v.sz + 1 ≤ n) ∧ All2 FVle c e.c := by
  obtain ⟨m0, hf, hn⟩ := h.inv rfl
  obtain ⟨a, b, c1, c2, h1, h2, rfl, rfl⟩ := hf.inv
  obtain ⟨a2, b2, c3, c4, h3, h4, rfl, rfl⟩ := h2.inv
  obtain ⟨rfl, rfl⟩ := h4.inv0
  obtain ⟨z, rfl, p1, p2⟩ := h1.inv rfl
  obtain ⟨r, ⟨hr, hs⟩, hle⟩ := dec_RR h3
  refine ⟨⟨z, r⟩, ⟨⟨⟨p1, p2⟩, hr⟩, by simp only; omega⟩, ?_⟩
  rw [List.append_nil]
  exact ⟨.refl _, hle⟩
theorem dec_Ro {c : List FV} {n : Nat} (h : Fits tab 49 c n) : ∃ r : Ro, (r.Ok ∧ r.sz ≤ n ∧ r.k ≤ n) ∧ All2 FVle c r.c := by
  obtain ⟨m0, hf, hn⟩ := h.inv rfl
  obtain ⟨a, b, c1, c2, h1, h2, rfl, rfl⟩ := hf.inv
  obtain ⟨a2, b2, c3, c4, h3, h4, rfl, rfl⟩ := h2.inv
  obtain ⟨a3, b3, c5, c6, h5, h6, rfl, rfl⟩ := h4.inv
  obtain ⟨rfl, rfl⟩ := h6.inv0
  obtain ⟨z, rfl, p1, p2⟩ := h1.inv rfl
  obtain ⟨r, ⟨hr, hs⟩, hle⟩ := dec_RR h3
  obtain ⟨te, at_, len, bs, he, rfl, hel, hsum⟩ := h5.inv rfl
  have hte : te.size = 4 := by cases he; rfl
  have hx : ∀ i, i < len → ∃ e : En, (e.Ok ∧ e.v.sz + 1 ≤ bs i) ∧ All2 FVle (at_ i) e.c := fun i hi => dec_En (hel i hi)
  obtain ⟨e, hx⟩ := pickF hx
  have q1 : nsum (fun j => (e j).v.sz + 1) len ≤ sumTo bs len := nsum_sumTo fun i hi => (hx i hi).1.2
  have q2 := len_le_sumTo (bs := bs) (n := len) fun i hi => (hel i hi).pos
  refine ⟨⟨z, r, e, len⟩, ⟨⟨⟨p1, p2⟩, hr, fun j hj => (hx j hj).1.1⟩, ?_, by simp only; omega⟩, ?_⟩
  · unfold Ro.sz Ro.esz; simp only; omega
  · rw [List.append_nil, hte]
    exact ⟨.refl _, all2_app hle ⟨.sl (fun i hi => (hx i hi).2) (.inl rfl), trivial⟩⟩
theorem dec_Co {c : List FV} {n : Nat} (h : Fits tab 81 c n) : ∃ r : Co, (r.Ok ∧ r.sz ≤ n) ∧ All2 FVle c r.c := by
  obtain ⟨m0, hf, hn⟩ := h.inv rfl
  obtain ⟨a, b, c1, c2, h1, h2, rfl, rfl⟩ := hf.inv
  obtain ⟨a2, b2, c3, c4, h3, h4, rfl, rfl⟩ := h2.inv
  obtain ⟨a3, b3, c5, c6, h5, h6, rfl, rfl⟩ := h4.inv
  obtain ⟨a4, b4, c7, c8, h7, h8, rfl, rfl⟩ := h6.inv
  obtain ⟨a5, b5, c9, c10, h9, h10, rfl, rfl⟩ := h8.inv
  obtain ⟨rfl, rfl⟩ := h10.inv0
  obtain ⟨r1, ⟨hr1, hs1⟩, hle1⟩ := dec_RR h1
  obtain ⟨r2, ⟨hr2, hs2⟩, hle2⟩ := dec_RR h5
  obtain ⟨r3, ⟨hr3, hs3⟩, hle3⟩ := dec_RR h9
  obtain ⟨f1, rfl⟩ := h3.inv rfl
  obtain ⟨f2, rfl⟩ := h7.inv rfl
  refine ⟨⟨r1, f1, r2, f2, r3⟩, ⟨⟨hr1, hr2, hr3⟩, by unfold Co.sz; simp only; omega⟩, ?_⟩
  rw [List.append_nil]
  exact all2_app hle1 ⟨.refl _, all2_app hle2 ⟨.refl _, hle3⟩⟩
theorem par_Prog {c : List FV} {n : Nat} (h : Fits tab 25 c n) (hn : n ≤ 1048576) : ∃ p : Pr, p.H ∧ AVle (.agg (fL c)) p.a := by
  obtain ⟨m0, hf, hm⟩ := h.inv rfl
  obtain ⟨a, b, c1, c2, h1, h2, rfl, rfl⟩ := hf.inv
  obtain ⟨a2, b2, c3, c4, h3, h4, rfl, rfl⟩ := h2.inv
  obtain ⟨rfl, rfl⟩ := h4.inv0
  obtain ⟨te, at_, len, bs, he, rfl, hel, hsum⟩ := h1.inv rfl
  obtain ⟨te2, at2, len2, bs2, he2, rfl, hel2, hsum2⟩ := h3.inv rfl
  have hte : te.size = 11 := by cases he; rfl
  have hte2 : te2.size = 5 := by cases he2; rfl
  have hx : ∀ i, i < len → ∃ r : Co, (r.Ok ∧ r.sz ≤ bs i) ∧ All2 FVle (at_ i) r.c := fun i hi => dec_Co (hel i hi)
  have hy : ∀ i, i < len2 → ∃ r : Ro, (r.Ok ∧ r.sz ≤ bs2 i ∧ r.k ≤ bs2 i) ∧ All2 FVle (at2 i) r.c := fun i hi => dec_Ro (hel2 i hi)
  obtain ⟨x, hx⟩ := pickF hx
  obtain ⟨y, hy⟩ := pickF hy
  have q1 : nsum (fun j => (x j).sz) len ≤ sumTo bs len := nsum_sumTo fun i hi => (hx i hi).1.2
  have q2 : nsum (fun j => (y j).sz) len2 ≤ sumTo bs2 len2 := nsum_sumTo fun i hi => (hy i hi).1.2.1
  have q3 := len_le_sumTo (bs := bs) (n := len) fun i hi => (hel i hi).pos
  have q4 := len_le_sumTo (bs := bs2) (n := len2) fun i hi => (hel2 i hi).pos
  have q5 : ∀ i, i < len2 → (y i).k ≤ 1048576 := fun i hi => by
    have := (hy i hi).1.2.2
    have := sumTo_le (bs := bs2) hi
    omega
  refine ⟨⟨x, len, y, len2⟩, ⟨⟨fun j hj => (hx j hj).1.1, fun i hi => (hy i hi).1.1⟩, ?_, fun i hi => by have := q5 i hi; simp only; omega, by simp only; omega, by simp only; omega⟩, ?_⟩
  · unfold Pr.sz; simp only; omega
  · rw [hte, hte2]
    exact .agg ⟨.f (.sl (fun i hi => (hx i hi).2) (.inl rfl)), .f (.sl (fun i hi => (hy i hi).2) (.inl rfl)), trivial⟩
end Go.Abs

/- What comes in: small numbers of sixteen bits, solutions. -/
set_option autoImplicit false
set_option maxHeartbeats 4000000
set_option linter.unusedVariables false
set_option linter.unusedSimpArgs false
namespace Go.Abs
open Go Go.Proofs

theorem all2_avle : ∀ {l l' : List FV}, All2 FVle l l' → All2 AVle (fL l) (fL l')
  | [], [], _ => trivial
  | _ :: _, _ :: _, h => ⟨.f h.1, all2_avle h.2⟩
  | [], _ :: _, h => h.elim
  | _ :: _, [], h => h.elim
theorem par_uint16 {c : FV} {n : Nat} (h : Fits tab 63 [c] n) : ∃ z : Int, (0 ≤ z ∧ z ≤ 65535) ∧ AVle (.f c) (.f (.int .u16 z)) := by
  obtain ⟨z, hc, h1, h2⟩ := h.inv rfl
  cases hc
  exact ⟨z, ⟨h1, h2⟩, .refl _⟩
theorem dec_Rats {c : List FV} {n : Nat} (h : Fits tab 26 c n) (hn : n ≤ 1048576) : ∃ (x : Nat → RR) (m : Nat), (XH x m ∧ m + nsum (fun j => (x j).sz) m + 1 ≤ n) ∧ All2 FVle c [.sl 3 (fun j => (x j).c) m none] := by
  obtain ⟨te, at_, len, bs, he, hc, hel, hs⟩ := h.inv rfl
  have hte : te.size = 3 := by cases he; rfl
  have hx : ∀ i, i < len → ∃ r : RR, (r.Ok ∧ r.sz + 1 ≤ bs i) ∧ All2 FVle (at_ i) r.c := fun i hi => dec_RR (hel i hi)
  obtain ⟨x, hx⟩ := pickF hx
  have h1 : nsum (fun j => (x j).sz + 1) len ≤ sumTo bs len := nsum_sumTo fun i hi => (hx i hi).1.2
  have e : nsum (fun j => (x j).sz + 1) len = nsum (fun j => (x j).sz) len + nsum (fun _ => 1) len := by rw [nsum_add]
  have e2 := nsum_const 1 len
  refine ⟨x, len, ⟨⟨fun j hj => (hx j hj).1.1, fun j hj => ?_, by omega, by omega⟩, by omega⟩, ?_⟩
  · have h3 : (x j).sz ≤ nsum (fun j => (x j).sz) len := nsum_get (f := fun j => (x j).sz) hj
    omega
  · rw [hc, hte]
    exact ⟨.sl (fun i hi => (hx i hi).2) (.inl rfl), trivial⟩
theorem dec_ints {c : List FV} {n : Nat} (h : Fits tab 42 c n) : ∃ (g : Nat → Int) (m : Nat), All2 FVle c [.sl 1 (fun j => [.int .i64 (g j)]) m none] := by
  obtain ⟨te, at_, len, bs, he, hc, hel, hn⟩ := h.inv rfl
  have hte : te = ⟨.int .i64, 1, 8, [.int .i64 0]⟩ := by cases he; rfl
  have hx : ∀ i, i < len → ∃ x : Int, at_ i = [.int .i64 x] := by
    intro i hi
    have := (hel i hi).inv he
    subst hte
    obtain ⟨z, h1, h2, h3⟩ := this
    exact ⟨z, h1⟩
  obtain ⟨g, hg⟩ := pickF hx
  refine ⟨g, len, ?_⟩
  subst hte
  rw [hc]
  refine ⟨.sl (fun i hi => ?_) (.inl rfl), trivial⟩
  rw [hg i hi]
  exact ⟨.refl _, trivial⟩
theorem par_Sol {c : List FV} {n : Nat} (h : Fits tab 69 c n) (hn : n ≤ 1048576) : ∃ s : So, s.H ∧ AVle (.agg (fL c)) s.a := by
  obtain ⟨m0, hf, hm⟩ := h.inv rfl
  obtain ⟨a1, b1, c1, r1, h1, k1, rfl, rfl⟩ := hf.inv
  obtain ⟨a2, b2, c2, r2, h2, k2, rfl, rfl⟩ := k1.inv
  obtain ⟨a3, b3, c3, r3, h3, k3, rfl, rfl⟩ := k2.inv
  obtain ⟨a4, b4, c4, r4, h4, k4, rfl, rfl⟩ := k3.inv
  obtain ⟨a5, b5, c5, r5, h5, k5, rfl, rfl⟩ := k4.inv
  obtain ⟨a6, b6, c6, r6, h6, k6, rfl, rfl⟩ := k5.inv
  obtain ⟨rfl, rfl⟩ := k6.inv0
  obtain ⟨m7, hf7, _⟩ := h6.inv rfl
  obtain ⟨a8, b8, c8, r8, h8, k8, rfl, rfl⟩ := hf7.inv
  obtain ⟨a9, b9, c9, r9, h9, k9, rfl, rfl⟩ := k8.inv
  obtain ⟨rfl, rfl⟩ := k9.inv0
  obtain ⟨g1, n1, le8⟩ := dec_ints h8
  obtain ⟨g2, n2, le9⟩ := dec_ints h9
  obtain ⟨z, rfl, p1, p2⟩ := h1.inv rfl
  obtain ⟨v, ⟨hv, hvs⟩, le2⟩ := dec_RR h2
  obtain ⟨x, nx, ⟨hx, _⟩, le3⟩ := dec_Rats h3 (by omega)
  obtain ⟨y, ny, ⟨hy, _⟩, le4⟩ := dec_Rats h4 (by omega)
  obtain ⟨r, nr, ⟨hr, _⟩, le5⟩ := dec_Rats h5 (by omega)
  refine ⟨⟨z, v, x, nx, y, ny, r, nr, g1, n1, g2, n2⟩, ⟨⟨p1, p2⟩, hv, by simp only; omega, hx, hy, hr⟩, ?_⟩
  rw [List.append_nil, List.append_nil]
  exact .agg <| all2_avle ⟨.refl _, all2_app le2 (all2_app le3 (all2_app le4 (all2_app le5 (all2_app le8 le9))))⟩
end Go.Abs
