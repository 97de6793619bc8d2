/- Contracts of the functions that the law calls, and the logic in which they are proved: part 5. -/
import Derived.Test.YtphneoieanklbaaGreatPq4
/- The tape of choices: rows, programs. -/
set_option autoImplicit false
set_option maxHeartbeats 4000000
set_option maxRecDepth 10000
set_option linter.unusedVariables false
set_option linter.unusedSimpArgs false
namespace Go.Abs
open Go Go.Proofs

theorem All2.fle_en (e : En) : All2 FVle e.c e.c := ⟨.refl _, .refl _, .refl _, .refl _, trivial⟩
theorem nth_old {f : Nat → Bool} {j q : Nat} (h : q < cnt f j) : nth f (j + 1) q = nth f j q := by rw [nth, if_neg (by omega)]
theorem more_ent {g : Nat → Int} {n i0 j q : Nat} (hf : tEntH g n i0 j = true) (hq : q < cnt (tEntH g n i0) j + 1) {l : List FV} (hl : l = (⟨j, RR.of (tNz g n (tstep n (tEntP g n i0 j)))⟩ : En).c) :
    All2 FVle (if q < cnt (tEntH g n i0) j then (tEnt g n i0 j (0 + q)).c else List.take 4 (List.drop ((0 + (q - cnt (tEntH g n i0) j)) * 4) l)) (tEnt g n i0 (j + 1) q).c := by
  subst hl
  rw [Nat.zero_add]
  by_cases h2 : q < cnt (tEntH g n i0) j
  · rw [if_pos h2]
    unfold tEnt
    rw [nth_old h2]
    exact .fle_en _
  · obtain rfl : q = cnt (tEntH g n i0) j := by omega
    rw [if_neg h2, Nat.sub_self]
    have e : nth (tEntH g n i0) (j + 1) (cnt (tEntH g n i0) j) = j := by rw [nth, if_pos ⟨hf, rfl⟩]
    unfold tEnt
    rw [e, Int.toNat_natCast]
    exact All2.fle_en ⟨j, _⟩
theorem gRow_ok (g : Nat → Int) (n i cols : Nat) (hn : n ≤ 1099511627776) (hi : i ≤ n) (hc : cols ≤ 16384) : RCall Tryz.prog 100 [tp, .f (.int .i64 cols)] (tb g n i) (tRow g n i cols).a (tb g n (tRowE g n i cols)) := by
  have t1 := gNext_ok g n i 3 (by decide) (by decide) hn hi
  have t2 := gRat_ok g n (tstep n i) hn (tstep_le hi)
  have hp0 : tRowP n i ≤ n := tN2_le (tstep_le hi)
  have t3 := fun j => gNext_ok g n (tEntP g n (tRowP n i) j) 3 (by decide) (by decide) hn (tEntP_le hp0 j)
  have t4 := fun j => gNonzero_ok g n (tstep n (tEntP g n (tRowP n i) j)) hn (tstep_le (tEntP_le hp0 j))
  obtain ⟨r3, r4⟩ := tnext_range g n i (N := 3) (by decide)
  have hT : tN2 n (tstep n i) = tRowP n i := rfl
  rw [hT] at t2
  have e1 : tRowE g n i cols = tEntP g n (tRowP n i) cols := rfl
  have e2 : tRow g n i cols = ⟨tnext g n i 3 - 1, RR.of (tR g n (tstep n i)), tEnt g n (tRowP n i) cols, cnt (tEntH g n (tRowP n i)) cols⟩ := rfl
  rw [e1, e2]
  clear e1 e2 hT
  have hstep : ∀ j, tEntP g n (tRowP n i) (j + 1) = if 0 < tnext g n (tEntP g n (tRowP n i) j) 3 then tN2 n (tstep n (tEntP g n (tRowP n i) j)) else tstep n (tEntP g n (tRowP n i) j) := fun j => rfl
  have hH : ∀ j, tEntH g n (tRowP n i) j = decide (0 < tnext g n (tEntP g n (tRowP n i) j) 3) := fun j => rfl
  have hcl := cnt_le (tEntH g n (tRowP n i))
  generalize tnext g n i 3 = s at *
  generalize tR g n (tstep n i) = b at *
  generalize tRowP n i = i0 at *
  refine rcall_rule env [(⟨s - 1, RR.of b, tEnt g n i0 cols, cnt (tEntH g n i0) cols⟩ : Ro).a] [0, 1, 4, 5, 6, 15, 20] Tryz.func100 rfl rfl rfl rfl ?_
  conv => whnf
  refine callR [1000000] t1 ?_
  conv => whnf
  refine ⟨⟨⟨rfl, rfl⟩, .refl _, trivial⟩, ⟨⟨.refl _, .refl _, trivial⟩, trivial⟩, ?_⟩
  conv => whnf
  refine fit64 (by omega) ?_
  conv => whnf
  refine callR [1000000] t2 ?_
  conv => whnf
  refine ⟨⟨⟨rfl, rfl⟩, trivial⟩, ⟨⟨.refl _, .refl _, trivial⟩, trivial⟩, ?_⟩
  conv => whnf
  refine .weak (nil_weakB 5 1 28 4 _ [.f (.int .i64 (s - 1)), .f (.bool (decide (b.num < 0))), nat b.num.natAbs, nat b.den, .lsl 28 1 4 0 0 none] (by decide) (by decide) rfl rfl ⟨.inl rfl, .inl rfl, .inl rfl, .inl rfl, .inr ⟨⟨_, _, rfl⟩, rfl⟩, trivial⟩) ?_
  refine loop_mod [0, 1, 4, 5, 6] [1000000, 4, 5, 28] [4, 5] [1000000, 4, 5, 28]
    (fun μ fr hp_ => ∃ j : Nat, j ≤ cols ∧ fr = [(0, tp), (1, .f (.int .i64 cols)), bpk 4 5, bpk 5 5, (6, .f (.int .i64 j))] ∧
      hp_ = [(1000000, 1, .vr (tapeL g n (tEntP g n i0 j))), bxk 4 [.f (.int .i64 0), .f (.bool false), .f (.sl 1 (fun _ => [.int .u32 0]) 0 (some 0)), .f (.sl 1 (fun _ => [.int .u32 0]) 0 (some 0)), .f (.sl 4 (fun _ => [.int .i64 0, .bool false, .sl 1 (fun _ => [.int .u32 0]) 0 (some 0), .sl 1 (fun _ => [.int .u32 0]) 0 (some 0)]) 0 (some 0))],
        bxk 5 [.f (.int .i64 (s - 1)), .f (.bool (decide (b.num < 0))), nat b.num.natAbs, nat b.den, .lsl 28 1 4 0 (cnt (tEntH g n i0) j) none], (28, 1, .fa 4 (cnt (tEntH g n i0) j) (fun q => (tEnt g n i0 j q).c))] ∧ μ = cols - j)
    (fun e fr hp_ => e = .exit 0 ∧ fr = [bpk 4 5, bpk 5 5] ∧
      hp_ = [(1000000, 1, .vr (tapeL g n (tEntP g n i0 cols))), bxk 4 [.f (.int .i64 0), .f (.bool false), .f (.sl 1 (fun _ => [.int .u32 0]) 0 (some 0)), .f (.sl 1 (fun _ => [.int .u32 0]) 0 (some 0)), .f (.sl 4 (fun _ => [.int .i64 0, .bool false, .sl 1 (fun _ => [.int .u32 0]) 0 (some 0), .sl 1 (fun _ => [.int .u32 0]) 0 (some 0)]) 0 (some 0))],
        bxk 5 [.f (.int .i64 (s - 1)), .f (.bool (decide (b.num < 0))), nat b.num.natAbs, nat b.den, .lsl 28 1 4 0 (cnt (tEntH g n i0) cols) none], (28, 1, .fa 4 (cnt (tEntH g n i0) cols) (fun q => (tEnt g n i0 cols q).c))])
    ⟨_, _, _, _, rfl, ?_, 0, Nat.zero_le _, rfl, rfl, rfl⟩ ?_ ?_
  · exact ⟨⟨rfl, rfl⟩, .refl _, ⟨rfl, rfl⟩, .refl _, ⟨rfl, rfl⟩, .refl _, ⟨rfl, rfl⟩, .fa fun j hj => absurd hj (Nat.not_lt_zero _), trivial⟩
  · rintro _ _ _ ⟨rfl, rfl, rfl⟩
    conv => whnf
    refine ⟨[1000000], ?_⟩
    conv => whnf
    exact ⟨⟨⟨.refl _, .refl _, .refl _, .refl _, ⟨by omega, .sl (fun q hq => by simp only [Nat.zero_add]; exact .fle_en _) (.inl rfl)⟩, trivial⟩, trivial⟩, ⟨⟨.refl _, .refl _, trivial⟩, trivial⟩, rfl⟩
  rintro μ _ _ ⟨j, hj, rfl, rfl, rfl⟩
  by_cases hjk : j < cols
  · have u1 := t3 j
    have u2 := t4 j
    have u3 := hH j
    have u4 := hstep j
    have u5 := hcl j
    by_cases hpos : 0 < tnext g n (tEntP g n i0 j) 3
    · rw [decide_eq_true hpos] at u3
      rw [if_pos hpos] at u4
      rw [← u4] at u2
      have hm := fun q hq l hl => more_ent (q := q) (l := l) u3 hq hl
      have c1 := cnt_step u3
      generalize tnext g n (tEntP g n i0 j) 3 = a at *
      generalize tNz g n (tstep n (tEntP g n i0 j)) = v at *
      conv => whnf
      refine splT (by simp only [decide_eq_true_eq, decide_eq_false_iff_not, Bool.not_eq_true', Bool.not_eq_false', gt_iff_lt, ge_iff_le] <;> omega) ?_
      conv => whnf
      refine callR [1000000] u1 ?_
      conv => whnf
      refine ⟨⟨⟨rfl, rfl⟩, .refl _, trivial⟩, ⟨⟨.refl _, .refl _, trivial⟩, trivial⟩, ?_⟩
      conv => whnf
      refine splT (decide_eq_true hpos) ?_
      conv => whnf
      refine callR [1000000] u2 ?_
      conv => whnf
      refine ⟨⟨⟨rfl, rfl⟩, trivial⟩, ⟨⟨.refl _, .refl _, trivial⟩, trivial⟩, ?_⟩
      conv => whnf
      refine ⟨⟨(show 1 ≤ 4 / 4 - 0 by decide), by omega, by omega, (show (cnt (tEntH g n i0) j + 1) * 64 ≤ 140737488355328 by omega)⟩, ?_⟩
      conv => whnf
      refine ⟨by kernel_rfl, ?_⟩
      conv => whnf
      refine fit64 (by omega) ?_
      conv => whnf
      refine ⟨_, ?_, _, _, [(1000000, 1, .vr (tapeL g n (tEntP g n i0 (j + 1)))), bxk 4 [.f (.int .i64 0), .f (.bool false), .f (.sl 1 (fun _ => [.int .u32 0]) 0 (some 0)), .f (.sl 1 (fun _ => [.int .u32 0]) 0 (some 0)), .f (.sl 4 (fun _ => [.int .i64 0, .bool false, .sl 1 (fun _ => [.int .u32 0]) 0 (some 0), .sl 1 (fun _ => [.int .u32 0]) 0 (some 0)]) 0 (some 0))],
        bxk 5 [.f (.int .i64 (s - 1)), .f (.bool (decide (b.num < 0))), nat b.num.natAbs, nat b.den, .lsl 28 1 4 0 (cnt (tEntH g n i0) j + 1) none], (28, 1, .fa 4 (cnt (tEntH g n i0) j + 1) (fun q => (tEnt g n i0 (j + 1) q).c))], rfl,
        ⟨⟨rfl, rfl⟩, .refl _, ⟨rfl, rfl⟩, .refl _, ⟨rfl, rfl⟩, .refl _, ⟨rfl, rfl⟩, .fa fun q hq => hm q hq _ rfl, trivial⟩, j + 1, hjk, rfl, ?_, rfl⟩
      · omega
      · rw [c1]
    · rw [decide_eq_false hpos] at u3
      rw [if_neg hpos] at u4
      rw [← u4] at u1
      obtain ⟨c1, c2⟩ := cnt_same u3
      have hE : ∀ q, tEnt g n i0 (j + 1) q = tEnt g n i0 j q := by intro q; unfold tEnt; rw [c2]
      generalize tnext g n (tEntP g n i0 j) 3 = a at *
      conv => whnf
      refine splT (by simp only [decide_eq_true_eq, decide_eq_false_iff_not, Bool.not_eq_true', Bool.not_eq_false', gt_iff_lt, ge_iff_le] <;> omega) ?_
      conv => whnf
      refine callR [1000000] u1 ?_
      conv => whnf
      refine ⟨⟨⟨rfl, rfl⟩, .refl _, trivial⟩, ⟨⟨.refl _, .refl _, trivial⟩, trivial⟩, ?_⟩
      conv => whnf
      refine splF (decide_eq_false hpos) ?_
      conv => whnf
      refine fit64 (by omega) ?_
      conv => whnf
      refine ⟨_, ?_, _, _, _, rfl, .refl _, j + 1, hjk, rfl, ?_, rfl⟩
      · omega
      · rw [c1]
        simp only [hE]; rfl
  · obtain rfl : j = cols := by omega
    conv => whnf
    refine splF (by simp only [decide_eq_true_eq, decide_eq_false_iff_not, Bool.not_eq_true', Bool.not_eq_false', gt_iff_lt, ge_iff_le] <;> omega) ?_
    conv => whnf
    exact ⟨_, _, _, rfl, .refl _, rfl, rfl, rfl⟩

theorem All2.fle_co (c : Co) : All2 FVle c.c c.c := ⟨.refl _, .refl _, .refl _, .refl _, .refl _, .refl _, .refl _, .refl _, .refl _, .refl _, .refl _, trivial⟩
theorem All2.fle_ro (r : Ro) : All2 FVle r.c r.c := ⟨.refl _, .refl _, .refl _, .refl _, .refl _, trivial⟩
theorem more_co {f : Nat → Co} {i j : Nat} (hj : j < i + 1) {l : List FV} (hl : l = (f i).c) :
    All2 FVle (if j < i then (f (0 + j)).c else List.take 11 (List.drop ((0 + (j - i)) * 11) l)) (f j).c := by
  subst hl
  rw [Nat.zero_add]
  by_cases h2 : j < i
  · rw [if_pos h2]; exact .fle_co _
  · obtain rfl : j = i := by omega
    rw [if_neg h2, Nat.sub_self]; exact .fle_co _
theorem more_ro {f : Nat → Ro} {i j : Nat} (hj : j < i + 1) {l : List FV} (hl : l = (f i).c) :
    All2 FVle (if j < i then (f (0 + j)).c else List.take 5 (List.drop ((0 + (j - i)) * 5) l)) (f j).c := by
  subst hl
  rw [Nat.zero_add]
  by_cases h2 : j < i
  · rw [if_pos h2]; exact .fle_ro _
  · obtain rfl : j = i := by omega
    rw [if_neg h2, Nat.sub_self]; exact .fle_ro _
def nilCo : AV := .f (.sl 11 (fun _ => [.bool false, .sl 1 (fun _ => [.int .u32 0]) 0 (some 0), .sl 1 (fun _ => [.int .u32 0]) 0 (some 0), .bool false, .bool false, .sl 1 (fun _ => [.int .u32 0]) 0 (some 0), .sl 1 (fun _ => [.int .u32 0]) 0 (some 0), .bool false, .bool false, .sl 1 (fun _ => [.int .u32 0]) 0 (some 0), .sl 1 (fun _ => [.int .u32 0]) 0 (some 0)]) 0 (some 0))
def nilRo : AV := .f (.sl 5 (fun _ => [.int .i64 0, .bool false, .sl 1 (fun _ => [.int .u32 0]) 0 (some 0), .sl 1 (fun _ => [.int .u32 0]) 0 (some 0), .sl 4 (fun _ => [.int .i64 0, .bool false, .sl 1 (fun _ => [.int .u32 0]) 0 (some 0), .sl 1 (fun _ => [.int .u32 0]) 0 (some 0)]) 0 (some 0)]) 0 (some 0))
theorem gTapeProgram_ok (g : Nat → Int) (n i : Nat) (hn : n ≤ 1099511627776) (hi : i ≤ n) :
    RCall Tryz.prog 54 [tp, .f (.int .i64 4), .f (.int .i64 4)] (tb g n i) (tPr g n i 4 4).a (tb g n (tPrE g n i 4 4)) := by
  have t1 := gNext_ok g n i 4 (by decide) (by decide) hn hi
  have t2 := fun k => gColumn_ok g n (pColP g n i k) hn (pColP_le hi k)
  obtain ⟨r1, r2⟩ := tnext_range g n i (N := 4) (by decide)
  obtain ⟨C, hC⟩ : ∃ C : Nat, pNc g n i 4 = C := ⟨_, rfl⟩
  have hC1 : 1 + tnext g n i 4 = C := by rw [← hC]; unfold pNc; omega
  have hcle : C ≤ 4 := by omega
  have e1 : tPr g n i 4 4 = ⟨fun j => tCol g n (pColP g n i j), C, fun j => tRow g n (pRowP g n (pColP g n i C) C j) C, pNr g n (pColP g n i C) 4⟩ := by unfold tPr; rw [hC]
  have e2 : tPrE g n i 4 4 = pRowP g n (pColP g n i C) C (pNr g n (pColP g n i C) 4) := by unfold tPrE; rw [hC]
  rw [e1, e2]
  have hs1 : ∀ k, pColP g n i (k + 1) = tColP g n (pColP g n i k) := fun k => rfl
  have hs0 : pColP g n i 0 = tstep n i := rfl
  have hle1 := fun k => pColP_le (g := g) hi k
  obtain ⟨cp, hcp⟩ : ∃ cp, (fun k => pColP g n i k) = cp := ⟨_, rfl⟩
  have hcp' : ∀ k, pColP g n i k = cp k := fun k => congrFun hcp k
  simp only [hcp'] at *
  have t3 := gNext_ok g n (cp C) 5 (by decide) (by decide) hn (hle1 C)
  have t4 := fun k => gRow_ok g n (pRowP g n (cp C) C k) C hn (pRowP_le (hle1 C) C k) (by omega)
  obtain ⟨r3, r4⟩ := tnext_range g n (cp C) (N := 5) (by decide)
  have hR1 : tnext g n (cp C) 5 = (pNr g n (cp C) 4 : Nat) := by unfold pNr; show _ = ((tnext g n (cp C) 5).toNat : Int); omega
  have hRle : pNr g n (cp C) 4 ≤ 4 := by omega
  have hs2 : ∀ k, pRowP g n (cp C) C (k + 1) = tRowE g n (pRowP g n (cp C) C k) C := fun k => rfl
  have hs3 : pRowP g n (cp C) C 0 = tstep n (cp C) := rfl
  generalize pNr g n (cp C) 4 = R at *
  obtain ⟨rp, hrp⟩ : ∃ rp, (fun k => pRowP g n (cp C) C k) = rp := ⟨_, rfl⟩
  have hrp' : ∀ k, pRowP g n (cp C) C k = rp k := fun k => congrFun hrp k
  simp only [hrp'] at *
  rw [hR1] at t3
  rw [← hs3] at t3
  rw [← hs0] at t1
  obtain ⟨a, ha⟩ : ∃ a, tnext g n i 4 = a := ⟨_, rfl⟩
  rw [ha] at t1 hC1 r1 r2
  clear e1 e2 hcp hcp' hrp hrp' hC ha
  refine rcall_rule env [(⟨fun j => tCol g n (cp j), C, fun j => tRow g n (rp j) C, R⟩ : Pr).a] [0, 1, 2, 6, 7, 8, 9, 16, 31] Tryz.func54 rfl rfl rfl rfl ?_
  conv => whnf
  refine callR [1000000] t1 ?_
  conv => whnf
  refine ⟨⟨⟨rfl, rfl⟩, .refl _, trivial⟩, ⟨⟨.refl _, .refl _, trivial⟩, trivial⟩, ?_⟩
  conv => whnf
  refine sumi64 C hC1 (by omega) ?_
  conv => whnf
  refine .weak (nil_weakB 7 1 24 11 _ [.lsl 24 1 11 0 0 none, nilRo] (by decide) (by decide) rfl rfl ⟨.inr ⟨⟨_, _, rfl⟩, rfl⟩, .inl rfl, trivial⟩) ?_
  refine loop_mod [0, 2, 6, 7, 8] [1000000, 6, 7, 24] [0, 2, 6, 7] [1000000, 6, 7, 24]
    (fun μ fr hp_ => ∃ j : Nat, j ≤ C ∧ fr = [(0, tp), (2, .f (.int .i64 4)), bpk 6 2, bpk 7 2, (8, .f (.int .i64 ((C - j : Nat) : Int)))] ∧
      hp_ = [(1000000, 1, .vr (tapeL g n (cp j))), bxk 6 [nilCo, nilRo], bxk 7 [.lsl 24 1 11 0 j none, nilRo], (24, 1, .fa 11 j (fun q => (tCol g n (cp q)).c))] ∧ μ = C - j)
    (fun e fr hp_ => e = .exit 0 ∧ fr = [(0, tp), (2, .f (.int .i64 4)), bpk 6 2, bpk 7 2] ∧
      hp_ = [(1000000, 1, .vr (tapeL g n (cp C))), bxk 6 [nilCo, nilRo], bxk 7 [.lsl 24 1 11 0 C none, nilRo], (24, 1, .fa 11 C (fun q => (tCol g n (cp q)).c))])
    ⟨_, _, _, _, rfl, ?_, 0, Nat.zero_le _, rfl, rfl, rfl⟩ ?_ ?_
  · exact ⟨⟨rfl, rfl⟩, .refl _, ⟨rfl, rfl⟩, .refl _, ⟨rfl, rfl⟩, .refl _, ⟨rfl, rfl⟩, .fa fun j hj => absurd hj (Nat.not_lt_zero _), trivial⟩
  · rintro _ _ _ ⟨rfl, rfl, rfl⟩
    conv => whnf
    refine fit64 (by omega) ?_
    conv => whnf
    refine callR [1000000] t3 ?_
    conv => whnf
    refine ⟨⟨⟨rfl, rfl⟩, .refl _, trivial⟩, ⟨⟨.refl _, .refl _, trivial⟩, trivial⟩, ?_⟩
    conv => whnf
    refine .weak (nil_weakB 7 1 42 5 _ [.lsl 24 1 11 0 C none, .lsl 42 1 5 0 0 none] (by decide) (by decide) rfl rfl ⟨.inl rfl, .inr ⟨⟨_, _, rfl⟩, rfl⟩, trivial⟩) ?_
    refine loop_mod [0, 6, 7, 9] [1000000, 6, 7, 24, 42] [6, 7] [1000000, 6, 7, 24, 42]
      (fun μ fr hp_ => ∃ j : Nat, j ≤ R ∧ fr = [(0, tp), bpk 6 2, bpk 7 2, (9, .f (.int .i64 ((R - j : Nat) : Int)))] ∧
        hp_ = [(1000000, 1, .vr (tapeL g n (rp j))), bxk 6 [nilCo, nilRo], bxk 7 [.lsl 24 1 11 0 C none, .lsl 42 1 5 0 j none], (24, 1, .fa 11 C (fun q => (tCol g n (cp q)).c)), (42, 1, .fa 5 j (fun q => (tRow g n (rp q) C).c))] ∧ μ = R - j)
      (fun e fr hp_ => e = .exit 2 ∧ fr = [bpk 6 2, bpk 7 2] ∧
        hp_ = [(1000000, 1, .vr (tapeL g n (rp R))), bxk 6 [nilCo, nilRo], bxk 7 [.lsl 24 1 11 0 C none, .lsl 42 1 5 0 R none], (24, 1, .fa 11 C (fun q => (tCol g n (cp q)).c)), (42, 1, .fa 5 R (fun q => (tRow g n (rp q) C).c))])
      ⟨_, _, _, _, rfl, ?_, 0, Nat.zero_le _, rfl, rfl, rfl⟩ ?_ ?_
    · exact ⟨⟨rfl, rfl⟩, .refl _, ⟨rfl, rfl⟩, .refl _, ⟨rfl, rfl⟩, .refl _, ⟨rfl, rfl⟩, .refl _, ⟨rfl, rfl⟩, .fa fun j hj => absurd hj (Nat.not_lt_zero _), trivial⟩
    · rintro _ _ _ ⟨rfl, rfl, rfl⟩
      conv => whnf
      refine ⟨[1000000], ?_⟩
      conv => whnf
      exact ⟨⟨⟨⟨by omega, .sl (fun q hq => by simp only [Nat.zero_add]; exact .fle_co _) (.inl rfl)⟩, ⟨by omega, .sl (fun q hq => by simp only [Nat.zero_add]; exact .fle_ro _) (.inl rfl)⟩, trivial⟩, trivial⟩, ⟨⟨.refl _, .refl _, trivial⟩, trivial⟩, rfl⟩
    rintro μ _ _ ⟨j, hj, rfl, rfl, rfl⟩
    by_cases hjk : j < R
    · have u1 := t4 j
      rw [← hs2 j] at u1
      conv => whnf
      refine splT (by simp only [decide_eq_true_eq, decide_eq_false_iff_not, Bool.not_eq_true', Bool.not_eq_false', gt_iff_lt, ge_iff_le] <;> omega) ?_
      conv => whnf
      refine callR [1000000] u1 ?_
      conv => whnf
      refine ⟨⟨⟨rfl, rfl⟩, .refl _, trivial⟩, ⟨⟨.refl _, .refl _, trivial⟩, trivial⟩, ?_⟩
      conv => whnf
      refine ⟨⟨(show 1 ≤ 5 / 5 - 0 by decide), by omega, by omega, (show (j + 1) * 88 ≤ 140737488355328 by omega)⟩, ?_⟩
      conv => whnf
      refine ⟨by kernel_rfl, ?_⟩
      conv => whnf
      refine sumi64 (R - (j + 1)) (by omega) (by omega) ?_
      conv => whnf
      refine ⟨_, ?_, _, _, [(1000000, 1, .vr (tapeL g n (rp (j + 1)))), bxk 6 [nilCo, nilRo], bxk 7 [.lsl 24 1 11 0 C none, .lsl 42 1 5 0 (j + 1) none], (24, 1, .fa 11 C (fun q => (tCol g n (cp q)).c)), (42, 1, .fa 5 (j + 1) (fun q => (tRow g n (rp q) C).c))], rfl,
        ⟨⟨rfl, rfl⟩, .refl _, ⟨rfl, rfl⟩, .refl _, ⟨rfl, rfl⟩, .refl _, ⟨rfl, rfl⟩, .refl _, ⟨rfl, rfl⟩, .fa fun q hq => more_ro (f := fun q => tRow g n (rp q) C) hq rfl, trivial⟩, j + 1, hjk, rfl, rfl, rfl⟩
      omega
    · obtain rfl : j = R := by omega
      conv => whnf
      refine splF (by simp only [decide_eq_true_eq, decide_eq_false_iff_not, Bool.not_eq_true', Bool.not_eq_false', gt_iff_lt, ge_iff_le] <;> omega) ?_
      conv => whnf
      exact ⟨_, _, _, rfl, .refl _, rfl, rfl, rfl⟩
  rintro μ _ _ ⟨j, hj, rfl, rfl, rfl⟩
  by_cases hjk : j < C
  · have u1 := t2 j
    rw [← hs1 j] at u1
    conv => whnf
    refine splT (by simp only [decide_eq_true_eq, decide_eq_false_iff_not, Bool.not_eq_true', Bool.not_eq_false', gt_iff_lt, ge_iff_le] <;> omega) ?_
    conv => whnf
    refine callR [1000000] u1 ?_
    conv => whnf
    refine ⟨⟨⟨rfl, rfl⟩, trivial⟩, ⟨⟨.refl _, .refl _, trivial⟩, trivial⟩, ?_⟩
    conv => whnf
    refine ⟨⟨(show 1 ≤ 11 / 11 - 0 by decide), by omega, by omega, (show (j + 1) * 184 ≤ 140737488355328 by omega)⟩, ?_⟩
    conv => whnf
    refine ⟨by kernel_rfl, ?_⟩
    conv => whnf
    refine sumi64 (C - (j + 1)) (by omega) (by omega) ?_
    conv => whnf
    refine ⟨_, ?_, _, _, [(1000000, 1, .vr (tapeL g n (cp (j + 1)))), bxk 6 [nilCo, nilRo], bxk 7 [.lsl 24 1 11 0 (j + 1) none, nilRo], (24, 1, .fa 11 (j + 1) (fun q => (tCol g n (cp q)).c))], rfl,
      ⟨⟨rfl, rfl⟩, .refl _, ⟨rfl, rfl⟩, .refl _, ⟨rfl, rfl⟩, .refl _, ⟨rfl, rfl⟩, .fa fun q hq => more_co (f := fun q => tCol g n (cp q)) hq rfl, trivial⟩, j + 1, hjk, rfl, rfl, rfl⟩
    omega
  · obtain rfl : j = C := by omega
    conv => whnf
    refine splF (by simp only [decide_eq_true_eq, decide_eq_false_iff_not, Bool.not_eq_true', Bool.not_eq_false', gt_iff_lt, ge_iff_le] <;> omega) ?_
    conv => whnf
    exact ⟨_, _, _, rfl, .refl _, rfl, rfl, rfl⟩

theorem gProgram_ok (g : Nat → Int) (n : Nat) (hn : n ≤ 1099511627776) : ACall Tryz.prog 19 [nums g n] (tPr g n 0 4 4).a := by
  have t1 := gNew_ok g n
  have t2 := gTapeProgram_ok g n 0 hn (Nat.zero_le _)
  refine acall_rule env [0, 2] Tryz.func19 rfl rfl rfl rfl ?_
  conv => whnf
  refine callR [] t1 ?_
  conv => whnf
  refine ⟨⟨.refl _, trivial⟩, trivial, ?_⟩
  conv => whnf
  refine callR [4] t2 ?_
  conv => whnf
  refine ⟨⟨⟨rfl, rfl⟩, .refl _, .refl _, trivial⟩, ⟨⟨.refl _, .refl _, trivial⟩, trivial⟩, ?_⟩
  conv => whnf
  (repeat (refine ⟨by kernel_rfl, ?_⟩; (conv => whnf)))
  refine ⟨(by (try simp only [true_and, and_true, Nat.sub_zero, Nat.zero_add, Int.toNat_natCast]) <;> omega), ?_⟩
  exact .refl _
end Go.Abs

/- Laws of layer 11: awake. -/
set_option autoImplicit false
set_option maxHeartbeats 4000000
set_option maxRecDepth 10000
set_option linter.unusedVariables false
set_option linter.unusedSimpArgs false
namespace Go.Abs
open Go Go.Proofs

theorem xh_of {x : Nat → RR} {n : Nat} (h1 : ∀ j, j < n → (x j).Ok) (h2 : ∀ j, j < n → (x j).sz ≤ 4096) (h3 : n ≤ 64) : XH x n := by
  refine ⟨h1, fun j hj => Nat.le_trans (h2 j hj) (by omega), Nat.le_trans (nsum_bound h2) ?_, by omega⟩
  have : n * 4096 ≤ 64 * 4096 := Nat.mul_le_mul_right _ h3
  omega
theorem gen_H (g : Nat → Int) (n : Nat) : (tPr g n 0 4 4).H := by
  obtain ⟨h1, h2, h3, h4⟩ := tPr_ok g n 0
  obtain ⟨h5, h6, h7⟩ := tPr_small g n 0
  exact ⟨h1, by omega, fun i hi => by have := h4 i hi; omega, by omega, by omega⟩
theorem gen_XH (g : Nat → Int) (n i k : Nat) (hk : k ≤ 64) : XH (tRats g n i) k :=
  xh_of (fun j _ => RR.of_ok _) (fun j _ => by show (RR.of _).sz ≤ _; rw [RR.of_sz]; exact Nat.le_trans (tR_sz _ _ _) (by omega)) hk

/-- the example -/
def exP : Pr := ⟨fun j => if j = 0 then ⟨RR.of (1 : Int), true, RR.nil, true, RR.of (2 : Int)⟩ else ⟨RR.of (2 : Int), true, RR.nil, false, RR.nil⟩, 2,
  fun _ => ⟨1, RR.of (3 : Int), fun k => if k = 0 then ⟨0, RR.of (1 : Int)⟩ else ⟨1, RR.of (1 : Int)⟩, 2⟩, 1⟩
theorem rsz_small {z : Int} (h : -4294967296 < z ∧ z < 4294967296) : rsz (z : Rat) ≤ 1 := rsz_int z (isz_one h) (by omega)
theorem of_small {z : Int} (h : -4294967296 < z ∧ z < 4294967296) : (RR.of (z : Rat)).sz ≤ 1 := by rw [RR.of_sz]; exact rsz_small h
theorem exC (j : Nat) : (exP.c j).Ok ∧ (exP.c j).sz ≤ 3 := by
  show (if j = 0 then (⟨RR.of (1 : Int), true, RR.nil, true, RR.of (2 : Int)⟩ : Co) else ⟨RR.of (2 : Int), true, RR.nil, false, RR.nil⟩).Ok ∧ (if j = 0 then (⟨RR.of (1 : Int), true, RR.nil, true, RR.of (2 : Int)⟩ : Co) else ⟨RR.of (2 : Int), true, RR.nil, false, RR.nil⟩).sz ≤ 3
  have a1 := of_small (z := 1) (by decide)
  have a2 := of_small (z := 2) (by decide)
  have a3 : RR.nil.sz ≤ 1 := by decide
  split
  · refine ⟨⟨RR.of_ok _, RR.nil_ok, RR.of_ok _⟩, ?_⟩
    show (RR.of ((1 : Int) : Rat)).sz + RR.nil.sz + (RR.of ((2 : Int) : Rat)).sz ≤ 3
    omega
  · refine ⟨⟨RR.of_ok _, RR.nil_ok, RR.nil_ok⟩, ?_⟩
    show (RR.of ((2 : Int) : Rat)).sz + RR.nil.sz + RR.nil.sz ≤ 3
    omega
theorem exE (i k : Nat) : ((exP.r i).e k).Ok ∧ ((exP.r i).e k).v.sz ≤ 1 := by
  have a1 := of_small (z := 1) (by decide)
  show (if k = 0 then (⟨0, RR.of (1 : Int)⟩ : En) else ⟨1, RR.of (1 : Int)⟩).Ok ∧ (if k = 0 then (⟨0, RR.of (1 : Int)⟩ : En) else ⟨1, RR.of (1 : Int)⟩).v.sz ≤ 1
  split
  · exact ⟨⟨by unfold I64; decide, RR.of_ok _⟩, a1⟩
  · exact ⟨⟨by unfold I64; decide, RR.of_ok _⟩, a1⟩
theorem ex_H : exP.H := by
  refine ⟨⟨fun j _ => (exC j).1, fun i _ => ⟨by show I64 1; unfold I64; decide, RR.of_ok _, fun k _ => (exE i k).1⟩⟩, ?_, fun i _ => by show (2 : Nat) ≤ _; omega, by show (2 : Nat) ≤ _; omega, by show (1 : Nat) ≤ _; omega⟩
  have h1 : nsum (fun j => (exP.c j).sz) 2 ≤ 2 * 3 := nsum_bound fun j _ => (exC j).2
  have h2 : nsum (fun i => (exP.r i).sz) 1 ≤ 1 * 8 := nsum_bound fun i _ => by
    have a3 := of_small (z := 3) (by decide)
    have h3 : nsum (fun k => ((exP.r i).e k).v.sz + 1) 2 ≤ 2 * 2 := nsum_bound fun k _ => by have := (exE i k).2; omega
    show (RR.of ((3 : Int) : Rat)).sz + nsum (fun k => ((exP.r i).e k).v.sz + 1) 2 + 1 ≤ 8
    omega
  show nsum (fun j => (exP.c j).sz) 2 + nsum (fun i => (exP.r i).sz) 1 ≤ _
  omega
def q1 : RR := RR.of ((1 : Int) : Rat)
def q2 : RR := RR.of ((2 : Int) : Rat)
def q3 : RR := RR.of ((3 : Int) : Rat)
def exC1 : List AV := [.f (.bool q1.neg), raw q1.g q1.n, raw q1.h q1.m, .f (.bool true), .f (.bool false), raw RR.nil.g 0, raw RR.nil.h 0, .f (.bool true), .f (.bool q2.neg), raw q2.g q2.n, raw q2.h q2.m,
  .f (.bool q2.neg), raw q2.g q2.n, raw q2.h q2.m, .f (.bool true), .f (.bool false), raw RR.nil.g 0, raw RR.nil.h 0, .f (.bool false), .f (.bool false), raw RR.nil.g 0, raw RR.nil.h 0]
def exR1 : List AV := [.f (.int .i64 1), .f (.bool q3.neg), raw q3.g q3.n, raw q3.h q3.m, .lsl 2000002 1 4 0 2 (some 2)]
def exE1 : List AV := [.f (.int .i64 0), .f (.bool q1.neg), raw q1.g q1.n, raw q1.h q1.m, .f (.int .i64 1), .f (.bool q1.neg), raw q1.g q1.n, raw q1.h q1.m]
def exE1F : List FV := (⟨0, q1⟩ : En).c ++ (⟨1, q1⟩ : En).c
def exC1F : List FV := (⟨q1, true, RR.nil, true, q2⟩ : Co).c ++ (⟨q2, true, RR.nil, false, RR.nil⟩ : Co).c
def exR1' : List AV := [.f (.int .i64 1), .f (.bool q3.neg), raw q3.g q3.n, raw q3.h q3.m, .f (.sl 4 (fun j => (exE1F.drop ((0 + j) * 4)).take 4) 2 none)]
def exR1F : List FV := [.int .i64 1, .bool q3.neg, .sl 1 (fun j => [.int .u32 (q3.g j : Nat)]) q3.n none, .sl 1 (fun j => [.int .u32 (q3.h j : Nat)]) q3.m none, .sl 4 (fun j => (exE1F.drop ((0 + j) * 4)).take 4) 2 none]
theorem q1v : q1.v = 1 := RR.of_v _
theorem q2v : q2.v = 2 := RR.of_v _
theorem q3v : q3.v = 3 := RR.of_v _
theorem ex_err : exP.err = 0 := by
  unfold Pr.err
  have h1 : allB (fun j => !(exP.c j).cross) exP.nc = true := by
    refine allB_iff.2 fun j hj => ?_
    have hj : j < 2 := hj
    match j, hj with
    | 0, _ =>
      show (!(true && true && decide (q2.v < RR.nil.v))) = true
      rw [q2v, RR.nil_v]; decide
    | 1, _ => rfl
  have h2 : allB (fun i => (exP.r i).ok exP.nc) exP.nr = true := by
    refine allB_iff.2 fun i hi => ?_
    have hi : i < 1 := hi
    match i, hi with
    | 0, _ =>
      unfold Ro.ok
      have : allB (entB (exP.r 0).e exP.nc) (exP.r 0).k = true := by
        refine allB_iff.2 fun k hk => ?_
        have hk : k < 2 := hk
        match k, hk with
        | 0, _ =>
          show (decide ((-1 : Int) < 0) && decide ((0 : Int) < 2) && decide (q1.v ≠ 0)) = true
          rw [q1v]; decide
        | 1, _ =>
          show (decide ((0 : Int) < 1) && decide ((1 : Int) < 2) && decide (q1.v ≠ 0)) = true
          rw [q1v]; decide
      rw [this]; rfl
  rw [if_neg (by show ¬ (16384 < 2 ∨ 16384 < 1); omega), h1, if_neg (by simp), h2, if_neg (by simp)]
def exX : Nat → RR := fun j => if j = 0 then q2 else q1
def exY : Nat → RR := fun _ => q2
def exZ : Nat → RR := fun _ => RR.of ((-1 : Int) : Rat)
theorem ex_obj : exP.obj exX = ((4 : Int) : Rat) := by
  show 0 + q1.v * q2.v + q2.v * q1.v = _
  rw [q1v, q2v]; decide +kernel
theorem ex_feas : exP.feas exX 2 = true := by
  refine feas_of ex_err rfl (fun j hj => cv_iff.2 ?_) (fun i hi => rv_iff.2 (holdB_iff.2 ?_))
  · have hj : j < 2 := hj
    match j, hj with
    | 0, _ =>
      show (true = true → RR.nil.v ≤ q2.v) ∧ (true = true → q2.v ≤ q2.v)
      rw [RR.nil_v, q2v]; decide
    | 1, _ =>
      show (true = true → RR.nil.v ≤ q1.v) ∧ (false = true → q1.v ≤ RR.nil.v)
      rw [RR.nil_v, q1v]; decide
  · have e : (exP.r i).act exX = 3 := by
      show 0 + q1.v * q2.v + q1.v * q1.v = 3
      rw [q1v, q2v]; decide +kernel
    rw [e]
    show ((1 : Int) = -1 → (3 : Rat) ≤ q3.v) ∧ ((1 : Int) = 1 → q3.v ≤ 3) ∧ ((1 : Int) ≠ -1 → (1 : Int) ≠ 1 → 3 = q3.v)
    rw [q3v]
    exact ⟨fun h => absurd h (by decide), fun _ => Rat.le_refl, fun _ h => absurd rfl h⟩
theorem ex_red0 : exP.red exY 0 = -1 := by
  have e : (exP.r 0).at 0 = 1 := by
    show 0 + (if (0 : Int) = ((0 : Nat) : Int) then q1.v else 0) + (if (1 : Int) = ((0 : Nat) : Int) then q1.v else 0) = 1
    rw [q1v]; decide +kernel
  show q1.v - (0 + q2.v * (exP.r 0).at 0) = -1
  rw [e, q1v, q2v]; decide +kernel
theorem ex_red1 : exP.red exY 1 = 0 := by
  have e : (exP.r 0).at 1 = 1 := by
    show 0 + (if (0 : Int) = ((1 : Nat) : Int) then q1.v else 0) + (if (1 : Int) = ((1 : Nat) : Int) then q1.v else 0) = 1
    rw [q1v]; decide +kernel
  show q2.v - (0 + q2.v * (exP.r 0).at 1) = 0
  rw [e, q2v]; decide +kernel
theorem ex_bndOk : exP.bndOk exY 1 = true := by
  unfold Pr.bndOk Pr.sgnd
  rw [decide_eq_true (errS_zero (a := 1) (b := exP.nr).2 ⟨ex_err, rfl⟩)]
  have h1 : allB (fun i => signB (exP.r i).s (exY i).v) exP.nr = true := by
    show (true && signB 1 q2.v) = true
    rw [q2v]; decide +kernel
  have h2 : allB (fun j => colHas (exP.c j) (exP.red exY j)) exP.nc = true := by
    show (true && colHas (exP.c 0) (exP.red exY 0) && colHas (exP.c 1) (exP.red exY 1)) = true
    rw [ex_red0, ex_red1]
    show (true && (decide ((-1 : Rat) = 0) || (decide (0 < (-1 : Rat)) && true) || (decide ((-1 : Rat) < 0) && true)) && (decide ((0 : Rat) = 0) || (decide (0 < (0 : Rat)) && true) || (decide ((0 : Rat) < 0) && false))) = true
    decide +kernel
  rw [h1, h2]; rfl
theorem ex_bnd : exP.bnd exY = ((4 : Int) : Rat) := by
  show (0 + q2.v * q3.v) + (0 + colB (exP.c 0) (exP.red exY 0) + colB (exP.c 1) (exP.red exY 1)) = _
  rw [ex_red0, ex_red1]
  show (0 + q2.v * q3.v) + (0 + (if 0 < (-1 : Rat) then (-1) * RR.nil.v else if (-1 : Rat) < 0 then (-1) * q2.v else 0) + (if 0 < (0 : Rat) then 0 * RR.nil.v else if (0 : Rat) < 0 then 0 * RR.nil.v else 0)) = _
  rw [q2v, q3v, RR.nil_v]; decide +kernel
theorem ex_sgnd : exP.sgnd exZ 1 = false := by
  have h1 : allB (fun i => signB (exP.r i).s (exZ i).v) exP.nr = false := by
    show (true && signB 1 (RR.of ((-1 : Int) : Rat)).v) = false
    rw [RR.of_v]; decide +kernel
  unfold Pr.sgnd
  rw [h1, Bool.and_false]
end Go.Abs

/- The reference's linear programs: which are valid. -/
set_option autoImplicit false
set_option maxHeartbeats 4000000
set_option maxRecDepth 10000
set_option linter.unusedVariables false
set_option linter.unusedSimpArgs false
namespace Go.Abs
open Go Go.Proofs

theorem refCrossed_ok {c : Co} (hc : c.Ok) (hs : c.sz ≤ 1099511627776) : ACall Tryz.prog 88 [c.a] (.f (.bool c.cross)) := by
  unfold Co.sz at hs
  have k1 := sCompare_ok hc.lo.is hc.up.is (by omega)
  have hx : decide (rcmp c.lo.v c.up.v > 0) = decide (c.up.v < c.lo.v) := decide_eq_decide.2 rcmp_pos
  unfold Co.cross
  rw [← hx]
  generalize rcmp c.lo.v c.up.v = C at *
  by_cases h1 : c.hl = true
  · by_cases h2 : c.hu = true
    · refine acall_rule env [0, 1, 2] Tryz.func88 rfl rfl rfl rfl ?_
      conv => whnf
      refine splT h1 ?_
      conv => whnf
      refine splT h2 ?_
      conv => whnf
      first | refine callF k1 ⟨.refl _, .refl _, trivial⟩ (by trivial) rfl ?_ | ((repeat (refine ⟨by kernel_rfl, ?_⟩; (conv => whnf))); refine callF k1 ⟨.refl _, .refl _, trivial⟩ (by trivial) rfl ?_)
      conv => whnf
      refine ⟨(by (try simp only [true_and, and_true, Nat.sub_zero, Nat.zero_add, Int.toNat_natCast]) <;> omega), ?_⟩
      exact .bool_of (by rw [h1, h2]; simp)
    · refine acall_rule env [0, 1, 2] Tryz.func88 rfl rfl rfl rfl ?_
      conv => whnf
      refine splT h1 ?_
      conv => whnf
      refine splF (by simpa using h2) ?_
      conv => whnf
      refine ⟨(by (try simp only [true_and, and_true, Nat.sub_zero, Nat.zero_add, Int.toNat_natCast]) <;> omega), ?_⟩
      exact .bool_of (by rw [h1]; simp [h2])
  · refine acall_rule env [0, 1, 2] Tryz.func88 rfl rfl rfl rfl ?_
    conv => whnf
    refine splF (by simpa using h1) ?_
    conv => whnf
    refine ⟨(by (try simp only [true_and, and_true, Nat.sub_zero, Nat.zero_add, Int.toNat_natCast]) <;> omega), ?_⟩
    exact .bool_of (by simp [h1])
theorem refVecValid_ok {e : Nat → En} {k : Nat} (n : Int) (he : ∀ j, j < k → (e j).Ok) (hs : ∀ j, j < k → (e j).v.sz ≤ 1099511627776) (hk : k ≤ 1099511627776) (hn : 0 ≤ n ∧ n ≤ 1099511627776) :
    ACall Tryz.prog 123 [ents e k, .f (.int .i64 n)] (.f (.bool (allB (entB e n.toNat) k))) := by
  obtain ⟨n, rfl⟩ : ∃ m : Nat, n = m := ⟨n.toNat, by omega⟩
  rw [Int.toNat_natCast]
  obtain ⟨B, hB⟩ : ∃ B, allB (entB e n) k = B := ⟨_, rfl⟩
  rw [hB]
  refine acall_rule env [0, 1, 4, 5, 9, 53] Tryz.func123 rfl rfl rfl rfl ?_
  conv => whnf
  refine loop_mod [0, 1, 4, 5] [] [4] []
    (fun μ fr hp => ∃ i : Nat, i ≤ k ∧ allB (entB e n) i = true ∧ fr = [(0, ents e k), (1, .f (.int .i64 n)), (4, .f (.bool false)), (5, .f (.int .i64 i))] ∧ hp = [] ∧ μ = k - i)
    (fun x fr hp => (x = .exit 0 ∧ B = true ∧ fr = [(4, .f (.bool false))] ∧ hp = []) ∨ (x = .ret ∧ B = false ∧ fr = [(4, .f (.bool false))] ∧ hp = []))
    ⟨_, _, _, _, rfl, .refl _, 0, Nat.zero_le _, rfl, rfl, rfl, rfl⟩ ?_ ?_
  · rintro _ _ _ (⟨rfl, rfl, rfl, rfl⟩ | ⟨rfl, rfl, rfl, rfl⟩)
    · conv => whnf
      (repeat (refine ⟨by kernel_rfl, ?_⟩; (conv => whnf)))
      refine ⟨(by (try simp only [true_and, and_true, Nat.sub_zero, Nat.zero_add, Int.toNat_natCast]) <;> omega), ?_⟩
      exact .refl _
    · conv => whnf
      (repeat (refine ⟨by kernel_rfl, ?_⟩; (conv => whnf)))
      refine ⟨(by (try simp only [true_and, and_true, Nat.sub_zero, Nat.zero_add, Int.toNat_natCast]) <;> omega), ?_⟩
      exact .refl _
  rintro μ _ _ ⟨i, hi, hall, rfl, rfl, rfl⟩
  by_cases hik : i < k
  · have hf := fun h => hB.symm.trans (allB_false hik h)
    have s1 := sSign_ok (he i hik).v.is (by have := hs i hik; omega)
    have hb : allB (entB e n) (i + 1) = entB e n i := by rw [allB, hall, Bool.true_and]
    have hei : entB e n i = (decide (prevI e i < (e i).i) && decide ((e i).i < n) && decide ((e i).v.v ≠ 0)) := rfl
    rw [hei] at hf hb
    have hx0 : rcmp (e i).v.v 0 = 0 ↔ (e i).v.v = 0 := rcmp_zero
    generalize rcmp (e i).v.v 0 = C at *
    rcases Nat.eq_zero_or_pos i with h0 | h0
    · have hL : prevI e i = -1 := by rw [h0]; rfl
      rw [hL] at hf hb
      conv => whnf
      refine splT (by simp only [decide_eq_true_eq, decide_eq_false_iff_not, Bool.not_eq_true', Bool.not_eq_false', gt_iff_lt, ge_iff_le] <;> omega) ?_
      conv => whnf
      refine ⟨(by (try simp only [true_and, and_true, Nat.sub_zero, Nat.zero_add, Int.toNat_natCast]) <;> omega), ?_⟩
      conv => whnf
      by_cases h1 : (e i).i < 0
      · refine splT (decide_eq_true h1) ?_
        conv => whnf
        refine ⟨by kernel_rfl, ?_⟩
        conv => whnf
        exact ⟨_, _, _, rfl, .refl _, .inr ⟨rfl, hf (by rw [decide_eq_false (by omega)]; rfl), rfl, rfl⟩⟩
      refine splF (decide_eq_false h1) ?_
      conv => whnf
      refine ⟨(by (try simp only [true_and, and_true, Nat.sub_zero, Nat.zero_add, Int.toNat_natCast]) <;> omega), ?_⟩
      conv => whnf
      by_cases h2 : (e i).i ≥ n
      · refine splT (decide_eq_true h2) ?_
        conv => whnf
        refine ⟨by kernel_rfl, ?_⟩
        conv => whnf
        exact ⟨_, _, _, rfl, .refl _, .inr ⟨rfl, hf (by rw [decide_eq_false (show ¬ (e i).i < n by omega), Bool.and_false]; rfl), rfl, rfl⟩⟩
      refine splF (decide_eq_false h2) ?_
      conv => whnf
      refine splF (decide_eq_false (by omega)) ?_
      conv => whnf
      refine ⟨(by (try simp only [true_and, and_true, Nat.sub_zero, Nat.zero_add, Int.toNat_natCast]) <;> omega), ?_⟩
      conv => whnf
      first | refine callF s1 ⟨.refl _, trivial⟩ (by trivial) rfl ?_ | ((repeat (refine ⟨by kernel_rfl, ?_⟩; (conv => whnf))); refine callF s1 ⟨.refl _, trivial⟩ (by trivial) rfl ?_)
      conv => whnf
      by_cases h3 : C = 0
      · refine ⟨by kernel_rfl, ?_⟩
        conv => whnf
        refine splT (decide_eq_true h3) ?_
        conv => whnf
        exact ⟨_, _, _, rfl, .refl _, .inr ⟨rfl, hf (by rw [decide_eq_false (show ¬ (e i).v.v ≠ 0 from fun h => h (hx0.1 h3)), Bool.and_false]), rfl, rfl⟩⟩
      refine ⟨by kernel_rfl, ?_⟩
      conv => whnf
      refine splF (decide_eq_false h3) ?_
      conv => whnf
      refine fit64 (by omega) ?_
      conv => whnf
      refine ⟨_, ?_, _, _, _, rfl, .refl _, i + 1, hik, ?_, rfl, rfl, rfl⟩
      · omega
      · rw [hb, decide_eq_true (show -1 < (e i).i by omega), decide_eq_true (show (e i).i < n by omega), decide_eq_true (show (e i).v.v ≠ 0 from fun h => h3 (hx0.2 h))]; rfl
    · obtain ⟨i', rfl⟩ : ∃ i', i = i' + 1 := ⟨i - 1, by omega⟩
      have hL : prevI e (i' + 1) = (e i').i := rfl
      have hp := (ent_range hall i' (by omega)).1
      rw [hL] at hf hb
      conv => whnf
      refine splT (by simp only [decide_eq_true_eq, decide_eq_false_iff_not, Bool.not_eq_true', Bool.not_eq_false', gt_iff_lt, ge_iff_le] <;> omega) ?_
      conv => whnf
      refine ⟨(by (try simp only [true_and, and_true, Nat.sub_zero, Nat.zero_add, Int.toNat_natCast]) <;> omega), ?_⟩
      conv => whnf
      by_cases h1 : (e (i' + 1)).i < 0
      · refine splT (decide_eq_true h1) ?_
        conv => whnf
        refine ⟨by kernel_rfl, ?_⟩
        conv => whnf
        exact ⟨_, _, _, rfl, .refl _, .inr ⟨rfl, hf (by rw [decide_eq_false (by omega)]; rfl), rfl, rfl⟩⟩
      refine splF (decide_eq_false h1) ?_
      conv => whnf
      refine ⟨(by (try simp only [true_and, and_true, Nat.sub_zero, Nat.zero_add, Int.toNat_natCast]) <;> omega), ?_⟩
      conv => whnf
      by_cases h2 : (e (i' + 1)).i ≥ n
      · refine splT (decide_eq_true h2) ?_
        conv => whnf
        refine ⟨by kernel_rfl, ?_⟩
        conv => whnf
        exact ⟨_, _, _, rfl, .refl _, .inr ⟨rfl, hf (by rw [decide_eq_false (show ¬ (e (i' + 1)).i < n by omega), Bool.and_false]; rfl), rfl, rfl⟩⟩
      refine splF (decide_eq_false h2) ?_
      conv => whnf
      refine splT (decide_eq_true (by omega)) ?_
      conv => whnf
      refine ⟨(by (try simp only [true_and, and_true, Nat.sub_zero, Nat.zero_add, Int.toNat_natCast]) <;> omega), ?_⟩
      conv => whnf
      refine sumi64 i' (by omega) (by omega) ?_
      conv => whnf
      refine ⟨(by (try simp only [true_and, and_true, Nat.sub_zero, Nat.zero_add, Int.toNat_natCast]) <;> omega), ?_⟩
      conv => whnf
      by_cases h4 : (e (i' + 1)).i ≤ (e i').i
      · refine splT (decide_eq_true h4) ?_
        conv => whnf
        refine ⟨by kernel_rfl, ?_⟩
        conv => whnf
        exact ⟨_, _, _, rfl, .refl _, .inr ⟨rfl, hf (by rw [decide_eq_false (show ¬ (e i').i < (e (i' + 1)).i by omega)]; rfl), rfl, rfl⟩⟩
      refine splF (decide_eq_false h4) ?_
      conv => whnf
      refine ⟨(by (try simp only [true_and, and_true, Nat.sub_zero, Nat.zero_add, Int.toNat_natCast]) <;> omega), ?_⟩
      conv => whnf
      first | refine callF s1 ⟨.refl _, trivial⟩ (by trivial) rfl ?_ | ((repeat (refine ⟨by kernel_rfl, ?_⟩; (conv => whnf))); refine callF s1 ⟨.refl _, trivial⟩ (by trivial) rfl ?_)
      conv => whnf
      by_cases h3 : C = 0
      · refine ⟨by kernel_rfl, ?_⟩
        conv => whnf
        refine splT (decide_eq_true h3) ?_
        conv => whnf
        exact ⟨_, _, _, rfl, .refl _, .inr ⟨rfl, hf (by rw [decide_eq_false (show ¬ (e (i' + 1)).v.v ≠ 0 from fun h => h (hx0.1 h3)), Bool.and_false]), rfl, rfl⟩⟩
      refine ⟨by kernel_rfl, ?_⟩
      conv => whnf
      refine splF (decide_eq_false h3) ?_
      conv => whnf
      refine fit64 (by omega) ?_
      conv => whnf
      refine ⟨_, ?_, _, _, _, rfl, .refl _, i' + 1 + 1, hik, ?_, rfl, rfl, rfl⟩
      · omega
      · rw [hb, decide_eq_true (show (e i').i < (e (i' + 1)).i by omega), decide_eq_true (show (e (i' + 1)).i < n by omega), decide_eq_true (show (e (i' + 1)).v.v ≠ 0 from fun h => h3 (hx0.2 h))]; rfl
  · obtain rfl : i = k := by omega
    conv => whnf
    refine splF (by simp only [decide_eq_true_eq, decide_eq_false_iff_not, Bool.not_eq_true', Bool.not_eq_false', gt_iff_lt, ge_iff_le] <;> omega) ?_
    conv => whnf
    exact ⟨_, _, _, rfl, .refl _, .inl ⟨rfl, by rw [← hB, hall], rfl, rfl⟩⟩
def rowErr (r : Ro) (n : Nat) : Int := if r.ok n then 0 else 1
theorem AVle.int_of2 {k : IntKind} {a b : Int} (h : a = b) : AVle (.f (.int k a)) (.f (.int k b)) := h ▸ .refl _
theorem refRowError_ok {r : Ro} (n : Nat) (hr : r.Ok) (hs : r.sz ≤ 1099511627776) (hk : r.k ≤ 1099511627776) (hn : n ≤ 1099511627776) : ACall Tryz.prog 89 [r.a, .f (.int .i64 n)] (.f (.int .i64 (rowErr r n))) := by
  have v1 := refVecValid_ok (e := r.e) (k := r.k) (n : Nat) hr.e (fun j hj => by have := Ro.esz_get hj; unfold Ro.sz at hs; omega) hk (by omega)
  rw [Int.toNat_natCast] at v1
  unfold rowErr Ro.ok
  obtain ⟨V, hV⟩ : ∃ V, allB (entB r.e n) r.k = V := ⟨_, rfl⟩
  rw [hV] at v1 ⊢
  by_cases h1 : r.s = -1
  · cases V
    · refine acall_rule env [0, 1, 2, 4, 24] Tryz.func89 rfl rfl rfl rfl ?_
      conv => whnf
      refine splF (by simp [h1]) ?_
      conv => whnf
      first | refine callF v1 ⟨.refl _, .refl _, trivial⟩ (by trivial) rfl ?_ | ((repeat (refine ⟨by kernel_rfl, ?_⟩; (conv => whnf))); refine callF v1 ⟨.refl _, .refl _, trivial⟩ (by trivial) rfl ?_)
      conv => whnf
      refine ⟨(by (try simp only [true_and, and_true, Nat.sub_zero, Nat.zero_add, Int.toNat_natCast]) <;> omega), ?_⟩
      exact .int_of2 (by simp [h1])
    · refine acall_rule env [0, 1, 2, 4, 24] Tryz.func89 rfl rfl rfl rfl ?_
      conv => whnf
      refine splF (by simp [h1]) ?_
      conv => whnf
      first | refine callF v1 ⟨.refl _, .refl _, trivial⟩ (by trivial) rfl ?_ | ((repeat (refine ⟨by kernel_rfl, ?_⟩; (conv => whnf))); refine callF v1 ⟨.refl _, .refl _, trivial⟩ (by trivial) rfl ?_)
      conv => whnf
      refine ⟨(by (try simp only [true_and, and_true, Nat.sub_zero, Nat.zero_add, Int.toNat_natCast]) <;> omega), ?_⟩
      exact .int_of2 (by simp [h1])
  by_cases h2 : r.s = 0
  · cases V
    · refine acall_rule env [0, 1, 2, 4, 24] Tryz.func89 rfl rfl rfl rfl ?_
      conv => whnf
      refine splT (by simp [h1]) ?_
      conv => whnf
      refine splF (by simp [h2]) ?_
      conv => whnf
      first | refine callF v1 ⟨.refl _, .refl _, trivial⟩ (by trivial) rfl ?_ | ((repeat (refine ⟨by kernel_rfl, ?_⟩; (conv => whnf))); refine callF v1 ⟨.refl _, .refl _, trivial⟩ (by trivial) rfl ?_)
      conv => whnf
      refine ⟨(by (try simp only [true_and, and_true, Nat.sub_zero, Nat.zero_add, Int.toNat_natCast]) <;> omega), ?_⟩
      exact .int_of2 (by simp [h2])
    · refine acall_rule env [0, 1, 2, 4, 24] Tryz.func89 rfl rfl rfl rfl ?_
      conv => whnf
      refine splT (by simp [h1]) ?_
      conv => whnf
      refine splF (by simp [h2]) ?_
      conv => whnf
      first | refine callF v1 ⟨.refl _, .refl _, trivial⟩ (by trivial) rfl ?_ | ((repeat (refine ⟨by kernel_rfl, ?_⟩; (conv => whnf))); refine callF v1 ⟨.refl _, .refl _, trivial⟩ (by trivial) rfl ?_)
      conv => whnf
      refine ⟨(by (try simp only [true_and, and_true, Nat.sub_zero, Nat.zero_add, Int.toNat_natCast]) <;> omega), ?_⟩
      exact .int_of2 (by simp [h2])
  by_cases h3 : r.s = 1
  · cases V
    · refine acall_rule env [0, 1, 2, 4, 24] Tryz.func89 rfl rfl rfl rfl ?_
      conv => whnf
      refine splT (by simp [h1]) ?_
      conv => whnf
      refine splT (by simp [h2]) ?_
      conv => whnf
      refine splF (by simp [h3]) ?_
      conv => whnf
      first | refine callF v1 ⟨.refl _, .refl _, trivial⟩ (by trivial) rfl ?_ | ((repeat (refine ⟨by kernel_rfl, ?_⟩; (conv => whnf))); refine callF v1 ⟨.refl _, .refl _, trivial⟩ (by trivial) rfl ?_)
      conv => whnf
      refine ⟨(by (try simp only [true_and, and_true, Nat.sub_zero, Nat.zero_add, Int.toNat_natCast]) <;> omega), ?_⟩
      exact .int_of2 (by simp [h3])
    · refine acall_rule env [0, 1, 2, 4, 24] Tryz.func89 rfl rfl rfl rfl ?_
      conv => whnf
      refine splT (by simp [h1]) ?_
      conv => whnf
      refine splT (by simp [h2]) ?_
      conv => whnf
      refine splF (by simp [h3]) ?_
      conv => whnf
      first | refine callF v1 ⟨.refl _, .refl _, trivial⟩ (by trivial) rfl ?_ | ((repeat (refine ⟨by kernel_rfl, ?_⟩; (conv => whnf))); refine callF v1 ⟨.refl _, .refl _, trivial⟩ (by trivial) rfl ?_)
      conv => whnf
      refine ⟨(by (try simp only [true_and, and_true, Nat.sub_zero, Nat.zero_add, Int.toNat_natCast]) <;> omega), ?_⟩
      exact .int_of2 (by simp [h3])
  · refine acall_rule env [0, 1, 2, 4, 24] Tryz.func89 rfl rfl rfl rfl ?_
    conv => whnf
    refine splT (by simp [h1]) ?_
    conv => whnf
    refine splT (by simp [h2]) ?_
    conv => whnf
    refine splT (by simp [h3]) ?_
    conv => whnf
    refine ⟨(by (try simp only [true_and, and_true, Nat.sub_zero, Nat.zero_add, Int.toNat_natCast]) <;> omega), ?_⟩
    exact .int_of2 (by simp [h1, h2, h3])
theorem ref11Valid_ok {p : Pr} (hp : p.H) : ACall Tryz.prog 47 [p.a] (.f (.int .i64 p.err)) := by
  have hps := hp.s
  have ho := fun j (h : j < p.nc) => refCrossed_ok (hp.ok.c j h) (Nat.le_trans (Pr.csz h) (by omega))
  have hv := fun i (h : i < p.nr) => refRowError_ok p.nc (hp.ok.r i h) (Nat.le_trans (Pr.rsz h) (by omega)) (by have := hp.k i h; omega) (by have := hp.c; omega)
  have hpc := hp.c
  have hpr := hp.r
  obtain ⟨E, hE⟩ : ∃ E, p.err = E := ⟨_, rfl⟩
  rw [hE]
  unfold Pr.err at hE
  by_cases g1 : 16384 < p.nc
  · rw [if_pos (.inl g1)] at hE
    subst hE
    refine acall_rule env [0, 1, 2, 3, 4, 5, 15, 20, 28, 33, 46] Tryz.func47 rfl rfl rfl rfl ?_
    conv => whnf
    refine splT (decide_eq_true (by omega)) ?_
    conv => whnf
    (repeat (refine ⟨by kernel_rfl, ?_⟩; (conv => whnf)))
    refine ⟨(by (try simp only [true_and, and_true, Nat.sub_zero, Nat.zero_add, Int.toNat_natCast]) <;> omega), ?_⟩
    exact .refl _
  by_cases g2 : 16384 < p.nr
  · rw [if_pos (.inr g2)] at hE
    subst hE
    refine acall_rule env [0, 1, 2, 3, 4, 5, 15, 20, 28, 33, 46] Tryz.func47 rfl rfl rfl rfl ?_
    conv => whnf
    refine splF (decide_eq_false (by omega)) ?_
    conv => whnf
    refine splT (decide_eq_true (by omega)) ?_
    conv => whnf
    (repeat (refine ⟨by kernel_rfl, ?_⟩; (conv => whnf)))
    refine ⟨(by (try simp only [true_and, and_true, Nat.sub_zero, Nat.zero_add, Int.toNat_natCast]) <;> omega), ?_⟩
    exact .refl _
  rw [if_neg (by omega)] at hE
  refine acall_rule env [0, 1, 2, 3, 4, 5, 15, 20, 28, 33, 46] Tryz.func47 rfl rfl rfl rfl ?_
  conv => whnf
  refine splF (decide_eq_false (by omega)) ?_
  conv => whnf
  refine splF (decide_eq_false (by omega)) ?_
  conv => whnf
  refine loop_mod [1, 2, 3] [1] [1, 2] [1]
    (fun μ fr hp => ∃ i : Nat, i ≤ p.nc ∧ allB (fun j => !(p.c j).cross) i = true ∧ fr = [bpk 1 2, (2, .f (.int .i64 0)), (3, .f (.int .i64 i))] ∧
      hp = [bxk 1 [.f (.sl 11 (fun j => (p.c j).c) p.nc none), .f (.sl 5 (fun i => (p.r i).c) p.nr none)]] ∧ μ = p.nc - i)
    (fun x fr hp => (x = .exit 0 ∧ allB (fun j => !(p.c j).cross) p.nc = true ∧ fr = [bpk 1 2, (2, .f (.int .i64 0))] ∧ hp = [bxk 1 [.f (.sl 11 (fun j => (p.c j).c) p.nc none), .f (.sl 5 (fun i => (p.r i).c) p.nr none)]]) ∨
      (x = .ret ∧ E = 3 ∧ fr = [bpk 1 2, (2, .f (.int .i64 3))] ∧ hp = [bxk 1 [.f (.sl 11 (fun j => (p.c j).c) p.nc none), .f (.sl 5 (fun i => (p.r i).c) p.nr none)]]))
    ⟨_, _, _, _, rfl, .refl _, 0, Nat.zero_le _, rfl, rfl, rfl, rfl⟩ ?_ ?_
  · rintro _ _ _ (⟨rfl, hall, rfl, rfl⟩ | ⟨rfl, rfl, rfl, rfl⟩)
    · rw [hall, if_neg (by decide)] at hE
      clear ho
      conv => whnf
      refine loop_mod [1, 2, 4] [1] [2] []
        (fun μ fr hp => ∃ i : Nat, i ≤ p.nr ∧ allB (fun i => (p.r i).ok p.nc) i = true ∧ fr = [bpk 1 2, (2, .f (.int .i64 0)), (4, .f (.int .i64 i))] ∧
          hp = [bxk 1 [.f (.sl 11 (fun j => (p.c j).c) p.nc none), .f (.sl 5 (fun i => (p.r i).c) p.nr none)]] ∧ μ = p.nr - i)
        (fun x fr hp => (x = .exit 2 ∧ E = 0 ∧ fr = [(2, .f (.int .i64 0))] ∧ hp = []) ∨ (x = .ret ∧ E = 1 ∧ fr = [(2, .f (.int .i64 1))] ∧ hp = []))
        ⟨_, _, _, _, rfl, .refl _, 0, Nat.zero_le _, rfl, rfl, rfl, rfl⟩ ?_ ?_
      · rintro _ _ _ (⟨rfl, rfl, rfl, rfl⟩ | ⟨rfl, rfl, rfl, rfl⟩)
        · conv => whnf
          (repeat (refine ⟨by kernel_rfl, ?_⟩; (conv => whnf)))
          refine ⟨(by (try simp only [true_and, and_true, Nat.sub_zero, Nat.zero_add, Int.toNat_natCast]) <;> omega), ?_⟩
          exact .refl _
        · conv => whnf
          (repeat (refine ⟨by kernel_rfl, ?_⟩; (conv => whnf)))
          refine ⟨(by (try simp only [true_and, and_true, Nat.sub_zero, Nat.zero_add, Int.toNat_natCast]) <;> omega), ?_⟩
          exact .refl _
      rintro μ _ _ ⟨i, hi, hall2, rfl, rfl, rfl⟩
      by_cases hik : i < p.nr
      · have hf : (p.r i).ok p.nc = false → E = 1 := fun h => by rw [← hE, if_pos (allB_false hik h)]
        have hb : allB (fun i => (p.r i).ok p.nc) (i + 1) = (p.r i).ok p.nc := by rw [allB, hall2, Bool.true_and]
        have v1 := hv i hik
        unfold rowErr at v1
        cases hV : (p.r i).ok p.nc with
        | true =>
          rw [hV] at hb v1
          rw [if_pos rfl] at v1
          conv => whnf
          refine splT (by simp only [decide_eq_true_eq, decide_eq_false_iff_not, Bool.not_eq_true', Bool.not_eq_false', gt_iff_lt, ge_iff_le] <;> omega) ?_
          conv => whnf
          refine ⟨(by (try simp only [true_and, and_true, Nat.sub_zero, Nat.zero_add, Int.toNat_natCast]) <;> omega), ?_⟩
          conv => whnf
          first | refine callF v1 ⟨.refl _, .refl _, trivial⟩ (by trivial) rfl ?_ | ((repeat (refine ⟨by kernel_rfl, ?_⟩; (conv => whnf))); refine callF v1 ⟨.refl _, .refl _, trivial⟩ (by trivial) rfl ?_)
          conv => whnf
          refine ⟨by kernel_rfl, ?_⟩
          conv => whnf
          refine fit64 (by omega) ?_
          conv => whnf
          refine ⟨_, ?_, _, _, _, rfl, .refl _, i + 1, hik, hb, rfl, rfl, rfl⟩
          omega
        | false =>
          rw [hV] at hf v1
          rw [if_neg (by simp)] at v1
          conv => whnf
          refine splT (by simp only [decide_eq_true_eq, decide_eq_false_iff_not, Bool.not_eq_true', Bool.not_eq_false', gt_iff_lt, ge_iff_le] <;> omega) ?_
          conv => whnf
          refine ⟨(by (try simp only [true_and, and_true, Nat.sub_zero, Nat.zero_add, Int.toNat_natCast]) <;> omega), ?_⟩
          conv => whnf
          first | refine callF v1 ⟨.refl _, .refl _, trivial⟩ (by trivial) rfl ?_ | ((repeat (refine ⟨by kernel_rfl, ?_⟩; (conv => whnf))); refine callF v1 ⟨.refl _, .refl _, trivial⟩ (by trivial) rfl ?_)
          conv => whnf
          refine ⟨by kernel_rfl, ?_⟩
          conv => whnf
          exact ⟨_, _, _, rfl, .refl _, .inr ⟨rfl, hf rfl, rfl, rfl⟩⟩
      · obtain rfl : i = p.nr := by omega
        rw [hall2, if_neg (by decide)] at hE
        conv => whnf
        refine splF (by simp only [decide_eq_true_eq, decide_eq_false_iff_not, Bool.not_eq_true', Bool.not_eq_false', gt_iff_lt, ge_iff_le] <;> omega) ?_
        conv => whnf
        exact ⟨_, _, _, rfl, .refl _, .inl ⟨rfl, hE.symm, rfl, rfl⟩⟩
    · conv => whnf
      (repeat (refine ⟨by kernel_rfl, ?_⟩; (conv => whnf)))
      refine ⟨(by (try simp only [true_and, and_true, Nat.sub_zero, Nat.zero_add, Int.toNat_natCast]) <;> omega), ?_⟩
      exact .refl _
  rintro μ _ _ ⟨i, hi, hall, rfl, rfl, rfl⟩
  by_cases hik : i < p.nc
  · have o1 := ho i hik
    have hf : (!(p.c i).cross) = false → E = 3 := fun h => by rw [← hE, if_pos (allB_false hik h)]
    have hb : allB (fun j => !(p.c j).cross) (i + 1) = !(p.c i).cross := by rw [allB, hall, Bool.true_and]
    obtain ⟨b, hbb⟩ : ∃ b, (p.c i).cross = b := ⟨_, rfl⟩
    rw [hbb] at o1 hf hb
    cases b with
    | true =>
      conv => whnf
      refine splT (by simp only [decide_eq_true_eq, decide_eq_false_iff_not, Bool.not_eq_true', Bool.not_eq_false', gt_iff_lt, ge_iff_le] <;> omega) ?_
      conv => whnf
      refine ⟨(by (try simp only [true_and, and_true, Nat.sub_zero, Nat.zero_add, Int.toNat_natCast]) <;> omega), ?_⟩
      conv => whnf
      first | refine callF o1 ⟨.refl _, trivial⟩ (by trivial) rfl ?_ | ((repeat (refine ⟨by kernel_rfl, ?_⟩; (conv => whnf))); refine callF o1 ⟨.refl _, trivial⟩ (by trivial) rfl ?_)
      conv => whnf
      exact ⟨_, _, _, rfl, .refl _, .inr ⟨rfl, hf rfl, rfl, rfl⟩⟩
    | false =>
      conv => whnf
      refine splT (by simp only [decide_eq_true_eq, decide_eq_false_iff_not, Bool.not_eq_true', Bool.not_eq_false', gt_iff_lt, ge_iff_le] <;> omega) ?_
      conv => whnf
      refine ⟨(by (try simp only [true_and, and_true, Nat.sub_zero, Nat.zero_add, Int.toNat_natCast]) <;> omega), ?_⟩
      conv => whnf
      first | refine callF o1 ⟨.refl _, trivial⟩ (by trivial) rfl ?_ | ((repeat (refine ⟨by kernel_rfl, ?_⟩; (conv => whnf))); refine callF o1 ⟨.refl _, trivial⟩ (by trivial) rfl ?_)
      conv => whnf
      refine fit64 (by omega) ?_
      conv => whnf
      refine ⟨_, ?_, _, _, _, rfl, .refl _, i + 1, hik, hb, rfl, rfl, rfl⟩
      omega
  · obtain rfl : i = p.nc := by omega
    conv => whnf
    refine splF (by simp only [decide_eq_true_eq, decide_eq_false_iff_not, Bool.not_eq_true', Bool.not_eq_false', gt_iff_lt, ge_iff_le] <;> omega) ?_
    conv => whnf
    exact ⟨_, _, _, rfl, .refl _, .inl ⟨rfl, hall, rfl, rfl⟩⟩
end Go.Abs

/- The reference's linear programs: points. -/
set_option autoImplicit false
set_option maxHeartbeats 4000000
set_option maxRecDepth 10000
set_option linter.unusedVariables false
set_option linter.unusedSimpArgs false
namespace Go.Abs
open Go Go.Proofs

def Pr.bx (p : Pr) : List AV := [.f (.sl 11 (fun j => (p.c j).c) p.nc none), .f (.sl 5 (fun i => (p.r i).c) p.nr none)]
theorem refObjective_ok {p : Pr} (hp : p.H) {x : Nat → RR} {n : Nat} (hx : XH x n) (he : p.errS n p.nc = 0) : ACall Tryz.prog 13 [p.a, rats x n] (rat (p.obj x)) := by
  have z0 := sFromInt_ok 0 (by decide)
  have z1 := sZero_ok
  obtain ⟨e1, e2⟩ := Pr.errS_zero.1 he
  obtain ⟨b1, b2, _, _⟩ := Pr.err_facts e1
  have hterm : ∀ j, j < p.nc → rsz ((p.c j).w.v * (x j).v) ≤ 8388608 := by
    intro j hj
    have h1 := prod_sz (hp.ok.c j hj).w (hx.ok j (by omega))
    have h2 := Pr.csz hj
    have h3 := hp.s
    have h4 := hx.s j (by omega)
    unfold Co.sz at h2
    omega
  have hpart : ∀ i, i ≤ p.nc → rsz (qsum (fun j => (p.c j).w.v * (x j).v) i) ≤ 137455730690 := by
    intro i hi
    have := qpart_sz hterm hi
    have h2 : p.nc * (8388608 + 1) ≤ 16384 * (8388608 + 1) := Nat.mul_le_mul_right _ b1
    omega
  unfold Pr.obj
  refine acall_rule env [0, 1, 2, 4, 5, 6, 12, 22] Tryz.func13 rfl rfl rfl rfl ?_
  conv => whnf
  first | refine callF z1 trivial (by trivial) rfl ?_ | ((repeat (refine ⟨by kernel_rfl, ?_⟩; (conv => whnf))); refine callF z1 trivial (by trivial) rfl ?_)
  conv => whnf
  refine loop_mod [1, 2, 4, 5, 6] [2, 4, 5] [4, 5] [4, 5]
    (fun μ fr hp_ => ∃ i : Nat, i ≤ p.nc ∧ fr = [(1, rats x n), bpk 2 2, bp3 4, bp3 5, (6, .f (.int .i64 i))] ∧
      hp_ = [bxk 2 [.f (.sl 11 (fun j => (p.c j).c) p.nc none), .f (.sl 5 (fun i => (p.r i).c) p.nr none)], bx3 4 zR, bx3 5 (ratL (qsum (fun j => (p.c j).w.v * (x j).v) i))] ∧ μ = p.nc - i)
    (fun e fr hp_ => e = .exit 0 ∧ fr = [bp3 4, bp3 5] ∧ hp_ = [bx3 4 zR, bx3 5 (ratL (qsum (fun j => (p.c j).w.v * (x j).v) p.nc))])
    ⟨_, _, _, _, rfl, .refl _, 0, Nat.zero_le _, rfl, rfl, rfl⟩ ?_ ?_
  · rintro _ _ _ ⟨rfl, rfl, rfl⟩
    conv => whnf
    (repeat (refine ⟨by kernel_rfl, ?_⟩; (conv => whnf)))
    refine ⟨(by (try simp only [true_and, and_true, Nat.sub_zero, Nat.zero_add, Int.toNat_natCast]) <;> omega), ?_⟩
    exact .refl _
  rintro μ _ _ ⟨i, hi, rfl, rfl, rfl⟩
  by_cases hik : i < p.nc
  · have hin : i < n := by omega
    have hw := (hp.ok.c i hik).w
    have hws : (p.c i).w.sz ≤ 4194304 := by have := Pr.csz hik; have := hp.s; unfold Co.sz at *; omega
    have s1 := sSign_ok hw.is (by omega)
    have m1 := sMul_ok hw.is (hx.ok i hin).is (by have := hx.s i hin; omega)
    have zq := hpart i hi
    have zt := hterm i hik
    have a1 := sAdd_ok (isR_rat _ zq) (isR_rat _ zt) (by omega)
    have hS : qsum (fun j => (p.c j).w.v * (x j).v) (i + 1) = qsum (fun j => (p.c j).w.v * (x j).v) i + (p.c i).w.v * (x i).v := rfl
    have hx0 : rcmp (p.c i).w.v 0 = 0 ↔ (p.c i).w.v = 0 := rcmp_zero
    by_cases hz : (p.c i).w.v = 0
    · rw [hx0.2 hz] at s1
      rw [hz, Rat.zero_mul, Rat.add_zero] at hS
      conv => whnf
      refine splT (by simp only [decide_eq_true_eq, decide_eq_false_iff_not, Bool.not_eq_true', Bool.not_eq_false', gt_iff_lt, ge_iff_le] <;> omega) ?_
      conv => whnf
      refine ⟨(by (try simp only [true_and, and_true, Nat.sub_zero, Nat.zero_add, Int.toNat_natCast]) <;> omega), ?_⟩
      conv => whnf
      first | refine callF s1 ⟨.refl _, trivial⟩ (by trivial) rfl ?_ | ((repeat (refine ⟨by kernel_rfl, ?_⟩; (conv => whnf))); refine callF s1 ⟨.refl _, trivial⟩ (by trivial) rfl ?_)
      conv => whnf
      refine fit64 (by omega) ?_
      conv => whnf
      exact ⟨_, by omega, _, _, _, rfl, .refl _, i + 1, hik, rfl, by rw [hS]; rfl, rfl⟩
    · have hne : ¬ rcmp (p.c i).w.v 0 = 0 := fun h => hz (hx0.1 h)
      rw [← hS] at a1
      generalize rcmp (p.c i).w.v 0 = C at *
      conv => whnf
      refine splT (by simp only [decide_eq_true_eq, decide_eq_false_iff_not, Bool.not_eq_true', Bool.not_eq_false', gt_iff_lt, ge_iff_le] <;> omega) ?_
      conv => whnf
      refine ⟨(by (try simp only [true_and, and_true, Nat.sub_zero, Nat.zero_add, Int.toNat_natCast]) <;> omega), ?_⟩
      conv => whnf
      first | refine callF s1 ⟨.refl _, trivial⟩ (by trivial) rfl ?_ | ((repeat (refine ⟨by kernel_rfl, ?_⟩; (conv => whnf))); refine callF s1 ⟨.refl _, trivial⟩ (by trivial) rfl ?_)
      conv => whnf
      refine splT (by simp [hne]) ?_
      conv => whnf
      refine ⟨(by (try simp only [true_and, and_true, Nat.sub_zero, Nat.zero_add, Int.toNat_natCast]) <;> omega), ?_⟩
      conv => whnf
      refine ⟨(by (try simp only [true_and, and_true, Nat.sub_zero, Nat.zero_add, Int.toNat_natCast]) <;> omega), ?_⟩
      conv => whnf
      first | refine callF m1 ⟨.refl _, .refl _, trivial⟩ (by trivial) rfl ?_ | ((repeat (refine ⟨by kernel_rfl, ?_⟩; (conv => whnf))); refine callF m1 ⟨.refl _, .refl _, trivial⟩ (by trivial) rfl ?_)
      conv => whnf
      first | refine callF a1 ⟨.refl _, .refl _, trivial⟩ (by trivial) rfl ?_ | ((repeat (refine ⟨by kernel_rfl, ?_⟩; (conv => whnf))); refine callF a1 ⟨.refl _, .refl _, trivial⟩ (by trivial) rfl ?_)
      conv => whnf
      refine ⟨by kernel_rfl, ?_⟩
      conv => whnf
      refine fit64 (by omega) ?_
      conv => whnf
      exact ⟨_, by omega, _, _, _, rfl, .refl _, i + 1, hik, rfl, rfl, rfl⟩
  · obtain rfl : i = p.nc := by omega
    conv => whnf
    refine splF (by simp only [decide_eq_true_eq, decide_eq_false_iff_not, Bool.not_eq_true', Bool.not_eq_false', gt_iff_lt, ge_iff_le] <;> omega) ?_
    conv => whnf
    exact ⟨_, _, _, rfl, .refl _, rfl, rfl, rfl⟩
theorem refActivity_ok {r : Ro} {x : Nat → RR} {n : Nat} (hr : RH r n) (hx : XH x n) : ACall Tryz.prog 91 [r.a, rats x n] (rat (r.act x)) := by
  have z1 := sZero_ok
  have hterm := act_term hr hx
  have hpart := act_part hr hx
  have hrk := hr.k
  unfold Ro.act
  refine acall_rule env [0, 1, 2, 4, 5, 6, 12] Tryz.func91 rfl rfl rfl rfl ?_
  conv => whnf
  first | refine callF z1 trivial (by trivial) rfl ?_ | ((repeat (refine ⟨by kernel_rfl, ?_⟩; (conv => whnf))); refine callF z1 trivial (by trivial) rfl ?_)
  conv => whnf
  refine loop_mod [1, 2, 4, 5, 6] [2, 4, 5] [4, 5] [4, 5]
    (fun μ fr hp_ => ∃ i : Nat, i ≤ r.k ∧ fr = [(1, rats x n), bpk 2 5, bp3 4, bp3 5, (6, .f (.int .i64 i))] ∧
      hp_ = [bxk 2 (fL r.c), bx3 4 zR, bx3 5 (ratL (qsum (fun j => (r.e j).v.v * (x (r.e j).i.toNat).v) i))] ∧ μ = r.k - i)
    (fun e fr hp_ => e = .exit 0 ∧ fr = [bp3 4, bp3 5] ∧ hp_ = [bx3 4 zR, bx3 5 (ratL (qsum (fun j => (r.e j).v.v * (x (r.e j).i.toNat).v) r.k))])
    ⟨_, _, _, _, rfl, .refl _, 0, Nat.zero_le _, rfl, rfl, rfl⟩ ?_ ?_
  · rintro _ _ _ ⟨rfl, rfl, rfl⟩
    conv => whnf
    (repeat (refine ⟨by kernel_rfl, ?_⟩; (conv => whnf)))
    refine ⟨(by (try simp only [true_and, and_true, Nat.sub_zero, Nat.zero_add, Int.toNat_natCast]) <;> omega), ?_⟩
    exact .refl _
  rintro μ _ _ ⟨i, hi, rfl, rfl, rfl⟩
  by_cases hik : i < r.k
  · have hin := hr.i i hik
    have hlt : (r.e i).i.toNat < n := by omega
    have m1 := sMul_ok (hr.ok.e i hik).v.is (hx.ok _ hlt).is (by have := hr.s i hik; have := hx.s _ hlt; omega)
    have zq := hpart i hi
    have zt := hterm i hik
    have a1 := sAdd_ok (isR_rat _ zq) (isR_rat _ zt) (by omega)
    have hS : qsum (fun j => (r.e j).v.v * (x (r.e j).i.toNat).v) (i + 1) = qsum (fun j => (r.e j).v.v * (x (r.e j).i.toNat).v) i + (r.e i).v.v * (x (r.e i).i.toNat).v := rfl
    rw [← hS] at a1
    conv => whnf
    refine splT (by simp only [decide_eq_true_eq, decide_eq_false_iff_not, Bool.not_eq_true', Bool.not_eq_false', gt_iff_lt, ge_iff_le] <;> omega) ?_
    conv => whnf
    refine ⟨(by (try simp only [true_and, and_true, Nat.sub_zero, Nat.zero_add, Int.toNat_natCast]) <;> omega), ?_⟩
    conv => whnf
    refine ⟨(by (try simp only [true_and, and_true, Nat.sub_zero, Nat.zero_add, Int.toNat_natCast]) <;> omega), ?_⟩
    conv => whnf
    refine ⟨(by (try simp only [true_and, and_true, Nat.sub_zero, Nat.zero_add, Int.toNat_natCast]) <;> omega), ?_⟩
    conv => whnf
    first | refine callF m1 ⟨.refl _, .refl _, trivial⟩ (by trivial) rfl ?_ | ((repeat (refine ⟨by kernel_rfl, ?_⟩; (conv => whnf))); refine callF m1 ⟨.refl _, .refl _, trivial⟩ (by trivial) rfl ?_)
    conv => whnf
    first | refine callF a1 ⟨.refl _, .refl _, trivial⟩ (by trivial) rfl ?_ | ((repeat (refine ⟨by kernel_rfl, ?_⟩; (conv => whnf))); refine callF a1 ⟨.refl _, .refl _, trivial⟩ (by trivial) rfl ?_)
    conv => whnf
    refine ⟨by kernel_rfl, ?_⟩
    conv => whnf
    refine fit64 (by omega) ?_
    conv => whnf
    exact ⟨_, by omega, _, _, _, rfl, .refl _, i + 1, hik, rfl, rfl, rfl⟩
  · obtain rfl : i = r.k := by omega
    conv => whnf
    refine splF (by simp only [decide_eq_true_eq, decide_eq_false_iff_not, Bool.not_eq_true', Bool.not_eq_false', gt_iff_lt, ge_iff_le] <;> omega) ?_
    conv => whnf
    exact ⟨_, _, _, rfl, .refl _, rfl, rfl, rfl⟩
theorem refHolds_ok {r : Ro} (hr : r.Ok) (hb : r.b.sz ≤ 4194304) {v : Rat} (hv : rsz v ≤ 274911461380) : ACall Tryz.prog 90 [rat v, .f (.int .i64 r.s), r.b.a] (.f (.bool (decide (r.s = -1 ∨ r.s = 0 ∨ r.s = 1) && holdB r.s v r.b.v))) := by
  have k1 := sCompare_ok (isR_rat v hv) hr.b.is (by omega)
  have h1 : decide (rcmp v r.b.v ≤ 0) = decide (v ≤ r.b.v) := decide_eq_decide.2 rcmp_le
  have h2 : decide (rcmp v r.b.v ≥ 0) = decide (r.b.v ≤ v) := decide_eq_decide.2 (by rw [← rcmp_le, rcmp_neg]; omega)
  have h3 : decide (rcmp v r.b.v = 0) = decide (v = r.b.v) := decide_eq_decide.2 rcmp_zero
  unfold holdB
  generalize rcmp v r.b.v = C at *
  by_cases s1 : r.s = -1
  · rw [if_pos s1, ← h1]
    by_cases c1 : C ≤ 0
    · refine acall_rule env [0, 1, 2, 3, 5, 6, 7] Tryz.func90 rfl rfl rfl rfl ?_
      conv => whnf
      first | refine callF k1 ⟨.refl _, .refl _, trivial⟩ (by trivial) rfl ?_ | ((repeat (refine ⟨by kernel_rfl, ?_⟩; (conv => whnf))); refine callF k1 ⟨.refl _, .refl _, trivial⟩ (by trivial) rfl ?_)
      conv => whnf
      refine splT (decide_eq_true s1) ?_
      conv => whnf
      refine splT (decide_eq_true c1) ?_
      conv => whnf
      refine ⟨(by (try simp only [true_and, and_true, Nat.sub_zero, Nat.zero_add, Int.toNat_natCast]) <;> omega), ?_⟩
      exact .bool_of (by simp [s1, c1])
    · refine acall_rule env [0, 1, 2, 3, 5, 6, 7] Tryz.func90 rfl rfl rfl rfl ?_
      conv => whnf
      first | refine callF k1 ⟨.refl _, .refl _, trivial⟩ (by trivial) rfl ?_ | ((repeat (refine ⟨by kernel_rfl, ?_⟩; (conv => whnf))); refine callF k1 ⟨.refl _, .refl _, trivial⟩ (by trivial) rfl ?_)
      conv => whnf
      refine splT (decide_eq_true s1) ?_
      conv => whnf
      refine splF (decide_eq_false c1) ?_
      conv => whnf
      refine splF (decide_eq_false (show ¬ r.s = 0 by omega)) ?_
      conv => whnf
      refine splF (decide_eq_false (show ¬ r.s = 1 by omega)) ?_
      conv => whnf
      refine ⟨(by (try simp only [true_and, and_true, Nat.sub_zero, Nat.zero_add, Int.toNat_natCast]) <;> omega), ?_⟩
      exact .bool_of (by simp [c1])
  rw [if_neg s1]
  by_cases s0 : r.s = 0
  · rw [if_neg (show ¬ r.s = 1 by omega), ← h3]
    by_cases c1 : C = 0
    · refine acall_rule env [0, 1, 2, 3, 5, 6, 7] Tryz.func90 rfl rfl rfl rfl ?_
      conv => whnf
      first | refine callF k1 ⟨.refl _, .refl _, trivial⟩ (by trivial) rfl ?_ | ((repeat (refine ⟨by kernel_rfl, ?_⟩; (conv => whnf))); refine callF k1 ⟨.refl _, .refl _, trivial⟩ (by trivial) rfl ?_)
      conv => whnf
      refine splF (decide_eq_false s1) ?_
      conv => whnf
      refine splT (decide_eq_true s0) ?_
      conv => whnf
      refine splT (decide_eq_true c1) ?_
      conv => whnf
      refine ⟨(by (try simp only [true_and, and_true, Nat.sub_zero, Nat.zero_add, Int.toNat_natCast]) <;> omega), ?_⟩
      exact .bool_of (by simp [s0, c1])
    · refine acall_rule env [0, 1, 2, 3, 5, 6, 7] Tryz.func90 rfl rfl rfl rfl ?_
      conv => whnf
      first | refine callF k1 ⟨.refl _, .refl _, trivial⟩ (by trivial) rfl ?_ | ((repeat (refine ⟨by kernel_rfl, ?_⟩; (conv => whnf))); refine callF k1 ⟨.refl _, .refl _, trivial⟩ (by trivial) rfl ?_)
      conv => whnf
      refine splF (decide_eq_false s1) ?_
      conv => whnf
      refine splT (decide_eq_true s0) ?_
      conv => whnf
      refine splF (decide_eq_false c1) ?_
      conv => whnf
      refine splF (decide_eq_false (show ¬ r.s = 1 by omega)) ?_
      conv => whnf
      refine ⟨(by (try simp only [true_and, and_true, Nat.sub_zero, Nat.zero_add, Int.toNat_natCast]) <;> omega), ?_⟩
      exact .bool_of (by simp [c1])
  by_cases s2 : r.s = 1
  · rw [if_pos s2, ← h2]
    refine acall_rule env [0, 1, 2, 3, 5, 6, 7] Tryz.func90 rfl rfl rfl rfl ?_
    conv => whnf
    first | refine callF k1 ⟨.refl _, .refl _, trivial⟩ (by trivial) rfl ?_ | ((repeat (refine ⟨by kernel_rfl, ?_⟩; (conv => whnf))); refine callF k1 ⟨.refl _, .refl _, trivial⟩ (by trivial) rfl ?_)
    conv => whnf
    refine splF (decide_eq_false s1) ?_
    conv => whnf
    refine splF (decide_eq_false s0) ?_
    conv => whnf
    refine splT (decide_eq_true s2) ?_
    conv => whnf
    refine ⟨(by (try simp only [true_and, and_true, Nat.sub_zero, Nat.zero_add, Int.toNat_natCast]) <;> omega), ?_⟩
    exact .bool_of (by simp [s2])
  · refine acall_rule env [0, 1, 2, 3, 5, 6, 7] Tryz.func90 rfl rfl rfl rfl ?_
    conv => whnf
    first | refine callF k1 ⟨.refl _, .refl _, trivial⟩ (by trivial) rfl ?_ | ((repeat (refine ⟨by kernel_rfl, ?_⟩; (conv => whnf))); refine callF k1 ⟨.refl _, .refl _, trivial⟩ (by trivial) rfl ?_)
    conv => whnf
    refine splF (decide_eq_false s1) ?_
    conv => whnf
    refine splF (decide_eq_false s0) ?_
    conv => whnf
    refine splF (decide_eq_false s2) ?_
    conv => whnf
    refine ⟨(by (try simp only [true_and, and_true, Nat.sub_zero, Nat.zero_add, Int.toNat_natCast]) <;> omega), ?_⟩
    exact .bool_of (by simp [s1, s0, s2])
theorem row_sen3 {r : Ro} {n : Nat} (h : r.ok n = true) : r.s = -1 ∨ r.s = 0 ∨ r.s = 1 := by
  unfold Ro.ok at h
  simp only [Bool.and_eq_true, Bool.or_eq_true, decide_eq_true_eq] at h
  omega
def rvioRes (p : Pr) (x : Nat → RR) : AV := .tup [nums (nth (p.cv x) p.nc) (cnt (p.cv x) p.nc), nums (nth (p.rv x) p.nr) (cnt (p.rv x) p.nr)]
theorem refViolated_ok {p : Pr} (hp : p.H) {x : Nat → RR} {n : Nat} (hx : XH x n) (he : p.errS n p.nc = 0) : ACall Tryz.prog 48 [p.a, rats x n] (rvioRes p x) := by
  unfold rvioRes
  obtain ⟨e1, e2⟩ := Pr.errS_zero.1 he
  obtain ⟨b1, b2, _, b4⟩ := Pr.err_facts e1
  subst e2
  have ha := fun i (hi : i < p.nr) => refActivity_ok (hp.row e1 hi) hx
  have hh := fun i (hi : i < p.nr) => refHolds_ok (hp.ok.r i hi) (by have := Pr.rsz hi; have := hp.s; unfold Ro.sz at *; omega) (Nat.le_trans (act_sz (hp.row e1 hi) hx) (by omega))
  have hcl := cnt_le (p.cv x)
  have hrl := cnt_le (p.rv x)
  refine acall_rule env [0, 1, 2, 4, 5, 6, 7, 8, 13, 46, 55, 78] Tryz.func48 rfl rfl rfl rfl ?_
  conv => whnf
  refine .weak (nil_weak 4 50 1 (by decide) rfl rfl) ?_
  refine loop_mod [1, 2, 4, 5, 6] [2, 50] [1, 2, 4, 5] [2, 50]
    (fun μ fr hp_ => ∃ i : Nat, i ≤ p.nc ∧ fr = [(1, rats x p.nc), bpk 2 2, (4, .lsl 50 1 1 0 (cnt (p.cv x) i) none), (5, nilI), (6, .f (.int .i64 i))] ∧
      hp_ = [bxk 2 [.f (.sl 11 (fun j => (p.c j).c) p.nc none), .f (.sl 5 (fun i => (p.r i).c) p.nr none)], (50, 1, .fa 1 (cnt (p.cv x) i) (fun j => [.int .i64 (nth (p.cv x) i j)]))] ∧ μ = p.nc - i)
    (fun e fr hp_ => e = .exit 0 ∧ fr = [(1, rats x p.nc), bpk 2 2, (4, .lsl 50 1 1 0 (cnt (p.cv x) p.nc) none), (5, nilI)] ∧
      hp_ = [bxk 2 [.f (.sl 11 (fun j => (p.c j).c) p.nc none), .f (.sl 5 (fun i => (p.r i).c) p.nr none)], (50, 1, .fa 1 (cnt (p.cv x) p.nc) (fun j => [.int .i64 (nth (p.cv x) p.nc j)]))])
    ⟨_, _, _, _, rfl, ?_, 0, Nat.zero_le _, rfl, rfl, rfl⟩ ?_ ?_
  · exact ⟨⟨rfl, rfl⟩, .refl _, ⟨rfl, rfl⟩, .fa fun j hj => absurd hj (Nat.not_lt_zero _), trivial⟩
  · rintro _ _ _ ⟨rfl, rfl, rfl⟩
    conv => whnf
    refine .weak (nil_weak 5 82 1 (by decide) rfl rfl) ?_
    refine loop_mod [1, 2, 4, 5, 8] [2, 50, 82] [4, 5] [50, 82]
      (fun μ fr hp_ => ∃ i : Nat, i ≤ p.nr ∧ fr = [(1, rats x p.nc), bpk 2 2, (4, .lsl 50 1 1 0 (cnt (p.cv x) p.nc) none), (5, .lsl 82 1 1 0 (cnt (p.rv x) i) none), (8, .f (.int .i64 i))] ∧
        hp_ = [bxk 2 [.f (.sl 11 (fun j => (p.c j).c) p.nc none), .f (.sl 5 (fun i => (p.r i).c) p.nr none)], (50, 1, .fa 1 (cnt (p.cv x) p.nc) (fun j => [.int .i64 (nth (p.cv x) p.nc j)])), (82, 1, .fa 1 (cnt (p.rv x) i) (fun j => [.int .i64 (nth (p.rv x) i j)]))] ∧ μ = p.nr - i)
      (fun e fr hp_ => e = .exit 2 ∧ fr = [(4, .lsl 50 1 1 0 (cnt (p.cv x) p.nc) none), (5, .lsl 82 1 1 0 (cnt (p.rv x) p.nr) none)] ∧
        hp_ = [(50, 1, .fa 1 (cnt (p.cv x) p.nc) (fun j => [.int .i64 (nth (p.cv x) p.nc j)])), (82, 1, .fa 1 (cnt (p.rv x) p.nr) (fun j => [.int .i64 (nth (p.rv x) p.nr j)]))])
      ⟨_, _, _, _, rfl, ?_, 0, Nat.zero_le _, rfl, rfl, rfl⟩ ?_ ?_
    · exact ⟨⟨rfl, rfl⟩, .refl _, ⟨rfl, rfl⟩, .refl _, ⟨rfl, rfl⟩, .fa fun j hj => absurd hj (Nat.not_lt_zero _), trivial⟩
    · rintro _ _ _ ⟨rfl, rfl, rfl⟩
      conv => whnf
      refine ⟨(by (try simp only [true_and, and_true, Nat.sub_zero, Nat.zero_add, Int.toNat_natCast]) <;> omega), ?_⟩
      refine .tup ⟨.f (.sl (fun j hj => ?_) (.inl rfl)), .f (.sl (fun j hj => ?_) (.inl rfl)), trivial⟩
      · simp only [Nat.zero_add]; exact .one (.refl _)
      · simp only [Nat.zero_add]; exact .one (.refl _)
    rintro μ _ _ ⟨i, hi, rfl, rfl, rfl⟩
    by_cases hik : i < p.nr
    · have a1 := ha i hik
      have h1 := hh i hik
      have hl := hrl i
      have hrv : p.rv x i = !holdB (p.r i).s ((p.r i).act x) (p.r i).b.v := rfl
      rw [decide_eq_true (row_sen3 (b4 i hik)), Bool.true_and] at h1
      cases hb : holdB (p.r i).s ((p.r i).act x) (p.r i).b.v with
      | true =>
        rw [hb] at hrv h1
        obtain ⟨c1, c2⟩ := cnt_same hrv
        conv => whnf
        refine splT (by simp only [decide_eq_true_eq, decide_eq_false_iff_not, Bool.not_eq_true', Bool.not_eq_false', gt_iff_lt, ge_iff_le] <;> omega) ?_
        conv => whnf
        refine ⟨(by (try simp only [true_and, and_true, Nat.sub_zero, Nat.zero_add, Int.toNat_natCast]) <;> omega), ?_⟩
        conv => whnf
        first | refine callF a1 ⟨.refl _, .refl _, trivial⟩ (by trivial) rfl ?_ | ((repeat (refine ⟨by kernel_rfl, ?_⟩; (conv => whnf))); refine callF a1 ⟨.refl _, .refl _, trivial⟩ (by trivial) rfl ?_)
        conv => whnf
        refine ⟨(by (try simp only [true_and, and_true, Nat.sub_zero, Nat.zero_add, Int.toNat_natCast]) <;> omega), ?_⟩
        conv => whnf
        refine ⟨(by (try simp only [true_and, and_true, Nat.sub_zero, Nat.zero_add, Int.toNat_natCast]) <;> omega), ?_⟩
        conv => whnf
        first | refine callF h1 ⟨.refl _, .refl _, .refl _, trivial⟩ (by trivial) rfl ?_ | ((repeat (refine ⟨by kernel_rfl, ?_⟩; (conv => whnf))); refine callF h1 ⟨.refl _, .refl _, .refl _, trivial⟩ (by trivial) rfl ?_)
        conv => whnf
        refine ⟨by kernel_rfl, ?_⟩
        conv => whnf
        refine fit64 (by omega) ?_
        conv => whnf
        refine ⟨_, ?_, _, _, _, rfl, .refl _, i + 1, hik, ?_, ?_, rfl⟩
        · omega
        · rw [c1]; rfl
        · rw [c1, c2]; rfl
      | false =>
        rw [hb] at hrv h1
        have c1 := cnt_step hrv
        conv => whnf
        refine splT (by simp only [decide_eq_true_eq, decide_eq_false_iff_not, Bool.not_eq_true', Bool.not_eq_false', gt_iff_lt, ge_iff_le] <;> omega) ?_
        conv => whnf
        refine ⟨(by (try simp only [true_and, and_true, Nat.sub_zero, Nat.zero_add, Int.toNat_natCast]) <;> omega), ?_⟩
        conv => whnf
        first | refine callF a1 ⟨.refl _, .refl _, trivial⟩ (by trivial) rfl ?_ | ((repeat (refine ⟨by kernel_rfl, ?_⟩; (conv => whnf))); refine callF a1 ⟨.refl _, .refl _, trivial⟩ (by trivial) rfl ?_)
        conv => whnf
        refine ⟨(by (try simp only [true_and, and_true, Nat.sub_zero, Nat.zero_add, Int.toNat_natCast]) <;> omega), ?_⟩
        conv => whnf
        refine ⟨(by (try simp only [true_and, and_true, Nat.sub_zero, Nat.zero_add, Int.toNat_natCast]) <;> omega), ?_⟩
        conv => whnf
        first | refine callF h1 ⟨.refl _, .refl _, .refl _, trivial⟩ (by trivial) rfl ?_ | ((repeat (refine ⟨by kernel_rfl, ?_⟩; (conv => whnf))); refine callF h1 ⟨.refl _, .refl _, .refl _, trivial⟩ (by trivial) rfl ?_)
        conv => whnf
        refine ⟨by kernel_rfl, ?_⟩
        conv => whnf
        refine ⟨⟨(show 1 ≤ 1 / 1 - 0 by decide), by omega, by omega, (show (cnt (p.rv x) i + 1) * 8 ≤ 140737488355328 by omega)⟩, ?_⟩
        conv => whnf
        refine fit64 (by omega) ?_
        conv => whnf
        refine ⟨_, ?_, _, _, [bxk 2 [.f (.sl 11 (fun j => (p.c j).c) p.nc none), .f (.sl 5 (fun i => (p.r i).c) p.nr none)], (50, 1, .fa 1 (cnt (p.cv x) p.nc) (fun j => [.int .i64 (nth (p.cv x) p.nc j)])), (82, 1, .fa 1 (cnt (p.rv x) i + 1) (fun j => [.int .i64 (nth (p.rv x) (i + 1) j)]))], rfl, ⟨⟨rfl, rfl⟩, .refl _, ⟨rfl, rfl⟩, .refl _, ⟨rfl, rfl⟩, .fa fun j hj => more_nth hrv hj rfl, trivial⟩, i + 1, hik, ?_, ?_, rfl⟩
        · omega
        · rw [c1]; rfl
        · rw [c1]
    · obtain rfl : i = p.nr := by omega
      conv => whnf
      refine splF (by simp only [decide_eq_true_eq, decide_eq_false_iff_not, Bool.not_eq_true', Bool.not_eq_false', gt_iff_lt, ge_iff_le] <;> omega) ?_
      conv => whnf
      exact ⟨_, _, _, rfl, .refl _, rfl, rfl, rfl⟩
  rintro μ _ _ ⟨i, hi, rfl, rfl, rfl⟩
  by_cases hik : i < p.nc
  · have hl := hcl i
    have hc := hp.ok.c i hik
    have hsz : (p.c i).sz ≤ 4194304 := Nat.le_trans (Pr.csz hik) hp.s
    unfold Co.sz at hsz
    have k1 := sCompare_ok (hx.ok i hik).is hc.lo.is (by have := hx.s i hik; omega)
    have k2 := sCompare_ok (hx.ok i hik).is hc.up.is (by have := hx.s i hik; omega)
    have hcv : p.cv x i = (((p.c i).hl && decide ((x i).v < (p.c i).lo.v)) || ((p.c i).hu && decide ((p.c i).up.v < (x i).v))) := rfl
    have q1 : decide ((x i).v < (p.c i).lo.v) = decide (rcmp (x i).v (p.c i).lo.v < 0) := decide_eq_decide.2 (by
      constructor
      · intro h; rw [rcmp_lt h]; decide
      · intro h; exact Rat.not_le.1 fun h' => by have := rcmp_le.2 h'; rw [rcmp_neg] at this; omega)
    have q2 : decide ((p.c i).up.v < (x i).v) = decide (rcmp (x i).v (p.c i).up.v > 0) := decide_eq_decide.2 rcmp_pos.symm
    rw [q1, q2] at hcv
    generalize rcmp (x i).v (p.c i).lo.v = C1 at *
    generalize rcmp (x i).v (p.c i).up.v = C2 at *
    clear q1 q2 ha hh
    by_cases a1 : (p.c i).hl = true
    · by_cases a2 : C1 < 0
      · have hv : p.cv x i = true := by rw [hcv, a1, decide_eq_true a2]; rfl
        conv => whnf
        refine splT (by simp only [decide_eq_true_eq, decide_eq_false_iff_not, Bool.not_eq_true', Bool.not_eq_false', gt_iff_lt, ge_iff_le] <;> omega) ?_
        conv => whnf
        refine ⟨(by (try simp only [true_and, and_true, Nat.sub_zero, Nat.zero_add, Int.toNat_natCast]) <;> omega), ?_⟩
        conv => whnf
        refine splT a1 ?_
        conv => whnf
        refine ⟨(by (try simp only [true_and, and_true, Nat.sub_zero, Nat.zero_add, Int.toNat_natCast]) <;> omega), ?_⟩
        conv => whnf
        first | refine callF k1 ⟨.refl _, .refl _, trivial⟩ (by trivial) rfl ?_ | ((repeat (refine ⟨by kernel_rfl, ?_⟩; (conv => whnf))); refine callF k1 ⟨.refl _, .refl _, trivial⟩ (by trivial) rfl ?_)
        conv => whnf
        refine splT (decide_eq_true a2) ?_
        conv => whnf
        refine ⟨by kernel_rfl, ?_⟩
        conv => whnf
        have c1 := cnt_step hv
        refine ⟨⟨(show 1 ≤ 1 / 1 - 0 by decide), by omega, by omega, (show (cnt (p.cv x) i + 1) * 8 ≤ 140737488355328 by omega)⟩, ?_⟩
        conv => whnf
        refine fit64 (by omega) ?_
        conv => whnf
        refine ⟨_, ?_, _, _, [bxk 2 [.f (.sl 11 (fun j => (p.c j).c) p.nc none), .f (.sl 5 (fun i => (p.r i).c) p.nr none)], (50, 1, .fa 1 (cnt (p.cv x) i + 1) (fun j => [.int .i64 (nth (p.cv x) (i + 1) j)]))], rfl, ⟨⟨rfl, rfl⟩, .refl _, ⟨rfl, rfl⟩, .fa fun j hj => more_nth hv hj rfl, trivial⟩, i + 1, hik, ?_, ?_, rfl⟩
        · omega
        · rw [c1]; rfl
        · rw [c1]
      · by_cases a3 : (p.c i).hu = true
        · by_cases a4 : C2 > 0
          · have hv : p.cv x i = true := by rw [hcv, a1, a3, decide_eq_true a4]; simp
            conv => whnf
            refine splT (by simp only [decide_eq_true_eq, decide_eq_false_iff_not, Bool.not_eq_true', Bool.not_eq_false', gt_iff_lt, ge_iff_le] <;> omega) ?_
            conv => whnf
            refine ⟨(by (try simp only [true_and, and_true, Nat.sub_zero, Nat.zero_add, Int.toNat_natCast]) <;> omega), ?_⟩
            conv => whnf
            refine splT a1 ?_
            conv => whnf
            refine ⟨(by (try simp only [true_and, and_true, Nat.sub_zero, Nat.zero_add, Int.toNat_natCast]) <;> omega), ?_⟩
            conv => whnf
            first | refine callF k1 ⟨.refl _, .refl _, trivial⟩ (by trivial) rfl ?_ | ((repeat (refine ⟨by kernel_rfl, ?_⟩; (conv => whnf))); refine callF k1 ⟨.refl _, .refl _, trivial⟩ (by trivial) rfl ?_)
            conv => whnf
            refine splF (decide_eq_false a2) ?_
            conv => whnf
            refine splT a3 ?_
            conv => whnf
            refine ⟨(by (try simp only [true_and, and_true, Nat.sub_zero, Nat.zero_add, Int.toNat_natCast]) <;> omega), ?_⟩
            conv => whnf
            first | refine callF k2 ⟨.refl _, .refl _, trivial⟩ (by trivial) rfl ?_ | ((repeat (refine ⟨by kernel_rfl, ?_⟩; (conv => whnf))); refine callF k2 ⟨.refl _, .refl _, trivial⟩ (by trivial) rfl ?_)
            conv => whnf
            refine ⟨by kernel_rfl, ?_⟩
            conv => whnf
            refine splT (decide_eq_true a4) ?_
            conv => whnf
            have c1 := cnt_step hv
            refine ⟨⟨(show 1 ≤ 1 / 1 - 0 by decide), by omega, by omega, (show (cnt (p.cv x) i + 1) * 8 ≤ 140737488355328 by omega)⟩, ?_⟩
            conv => whnf
            refine fit64 (by omega) ?_
            conv => whnf
            refine ⟨_, ?_, _, _, [bxk 2 [.f (.sl 11 (fun j => (p.c j).c) p.nc none), .f (.sl 5 (fun i => (p.r i).c) p.nr none)], (50, 1, .fa 1 (cnt (p.cv x) i + 1) (fun j => [.int .i64 (nth (p.cv x) (i + 1) j)]))], rfl, ⟨⟨rfl, rfl⟩, .refl _, ⟨rfl, rfl⟩, .fa fun j hj => more_nth hv hj rfl, trivial⟩, i + 1, hik, ?_, ?_, rfl⟩
            · omega
            · rw [c1]; rfl
            · rw [c1]
          · have hv : p.cv x i = false := by rw [hcv, decide_eq_false a2, decide_eq_false a4]; simp
            conv => whnf
            refine splT (by simp only [decide_eq_true_eq, decide_eq_false_iff_not, Bool.not_eq_true', Bool.not_eq_false', gt_iff_lt, ge_iff_le] <;> omega) ?_
            conv => whnf
            refine ⟨(by (try simp only [true_and, and_true, Nat.sub_zero, Nat.zero_add, Int.toNat_natCast]) <;> omega), ?_⟩
            conv => whnf
            refine splT a1 ?_
            conv => whnf
            refine ⟨(by (try simp only [true_and, and_true, Nat.sub_zero, Nat.zero_add, Int.toNat_natCast]) <;> omega), ?_⟩
            conv => whnf
            first | refine callF k1 ⟨.refl _, .refl _, trivial⟩ (by trivial) rfl ?_ | ((repeat (refine ⟨by kernel_rfl, ?_⟩; (conv => whnf))); refine callF k1 ⟨.refl _, .refl _, trivial⟩ (by trivial) rfl ?_)
            conv => whnf
            refine splF (decide_eq_false a2) ?_
            conv => whnf
            refine splT a3 ?_
            conv => whnf
            refine ⟨(by (try simp only [true_and, and_true, Nat.sub_zero, Nat.zero_add, Int.toNat_natCast]) <;> omega), ?_⟩
            conv => whnf
            first | refine callF k2 ⟨.refl _, .refl _, trivial⟩ (by trivial) rfl ?_ | ((repeat (refine ⟨by kernel_rfl, ?_⟩; (conv => whnf))); refine callF k2 ⟨.refl _, .refl _, trivial⟩ (by trivial) rfl ?_)
            conv => whnf
            refine ⟨by kernel_rfl, ?_⟩
            conv => whnf
            refine splF (decide_eq_false a4) ?_
            conv => whnf
            obtain ⟨c1, c2⟩ := cnt_same hv
            refine fit64 (by omega) ?_
            conv => whnf
            refine ⟨_, ?_, _, _, _, rfl, .refl _, i + 1, hik, ?_, ?_, rfl⟩
            · omega
            · rw [c1]; rfl
            · rw [c1, c2]; rfl
        · have hv : p.cv x i = false := by rw [hcv, decide_eq_false a2]; simp [a3]
          conv => whnf
          refine splT (by simp only [decide_eq_true_eq, decide_eq_false_iff_not, Bool.not_eq_true', Bool.not_eq_false', gt_iff_lt, ge_iff_le] <;> omega) ?_
          conv => whnf
          refine ⟨(by (try simp only [true_and, and_true, Nat.sub_zero, Nat.zero_add, Int.toNat_natCast]) <;> omega), ?_⟩
          conv => whnf
          refine splT a1 ?_
          conv => whnf
          refine ⟨(by (try simp only [true_and, and_true, Nat.sub_zero, Nat.zero_add, Int.toNat_natCast]) <;> omega), ?_⟩
          conv => whnf
          first | refine callF k1 ⟨.refl _, .refl _, trivial⟩ (by trivial) rfl ?_ | ((repeat (refine ⟨by kernel_rfl, ?_⟩; (conv => whnf))); refine callF k1 ⟨.refl _, .refl _, trivial⟩ (by trivial) rfl ?_)
          conv => whnf
          refine splF (decide_eq_false a2) ?_
          conv => whnf
          refine splF (by simpa using a3) ?_
          conv => whnf
          refine ⟨by kernel_rfl, ?_⟩
          conv => whnf
          obtain ⟨c1, c2⟩ := cnt_same hv
          refine fit64 (by omega) ?_
          conv => whnf
          refine ⟨_, ?_, _, _, _, rfl, .refl _, i + 1, hik, ?_, ?_, rfl⟩
          · omega
          · rw [c1]; rfl
          · rw [c1, c2]; rfl
    · by_cases a3 : (p.c i).hu = true
      · by_cases a4 : C2 > 0
        · have hv : p.cv x i = true := by rw [hcv, a3, decide_eq_true a4]; simp
          conv => whnf
          refine splT (by simp only [decide_eq_true_eq, decide_eq_false_iff_not, Bool.not_eq_true', Bool.not_eq_false', gt_iff_lt, ge_iff_le] <;> omega) ?_
          conv => whnf
          refine ⟨(by (try simp only [true_and, and_true, Nat.sub_zero, Nat.zero_add, Int.toNat_natCast]) <;> omega), ?_⟩
          conv => whnf
          refine splF (by simpa using a1) ?_
          conv => whnf
          refine splT a3 ?_
          conv => whnf
          refine ⟨(by (try simp only [true_and, and_true, Nat.sub_zero, Nat.zero_add, Int.toNat_natCast]) <;> omega), ?_⟩
          conv => whnf
          first | refine callF k2 ⟨.refl _, .refl _, trivial⟩ (by trivial) rfl ?_ | ((repeat (refine ⟨by kernel_rfl, ?_⟩; (conv => whnf))); refine callF k2 ⟨.refl _, .refl _, trivial⟩ (by trivial) rfl ?_)
          conv => whnf
          refine ⟨by kernel_rfl, ?_⟩
          conv => whnf
          refine splT (decide_eq_true a4) ?_
          conv => whnf
          have c1 := cnt_step hv
          refine ⟨⟨(show 1 ≤ 1 / 1 - 0 by decide), by omega, by omega, (show (cnt (p.cv x) i + 1) * 8 ≤ 140737488355328 by omega)⟩, ?_⟩
          conv => whnf
          refine fit64 (by omega) ?_
          conv => whnf
          refine ⟨_, ?_, _, _, [bxk 2 [.f (.sl 11 (fun j => (p.c j).c) p.nc none), .f (.sl 5 (fun i => (p.r i).c) p.nr none)], (50, 1, .fa 1 (cnt (p.cv x) i + 1) (fun j => [.int .i64 (nth (p.cv x) (i + 1) j)]))], rfl, ⟨⟨rfl, rfl⟩, .refl _, ⟨rfl, rfl⟩, .fa fun j hj => more_nth hv hj rfl, trivial⟩, i + 1, hik, ?_, ?_, rfl⟩
          · omega
          · rw [c1]; rfl
          · rw [c1]
        · have hv : p.cv x i = false := by rw [hcv, decide_eq_false a4]; simp [a1]
          conv => whnf
          refine splT (by simp only [decide_eq_true_eq, decide_eq_false_iff_not, Bool.not_eq_true', Bool.not_eq_false', gt_iff_lt, ge_iff_le] <;> omega) ?_
          conv => whnf
          refine ⟨(by (try simp only [true_and, and_true, Nat.sub_zero, Nat.zero_add, Int.toNat_natCast]) <;> omega), ?_⟩
          conv => whnf
          refine splF (by simpa using a1) ?_
          conv => whnf
          refine splT a3 ?_
          conv => whnf
          refine ⟨(by (try simp only [true_and, and_true, Nat.sub_zero, Nat.zero_add, Int.toNat_natCast]) <;> omega), ?_⟩
          conv => whnf
          first | refine callF k2 ⟨.refl _, .refl _, trivial⟩ (by trivial) rfl ?_ | ((repeat (refine ⟨by kernel_rfl, ?_⟩; (conv => whnf))); refine callF k2 ⟨.refl _, .refl _, trivial⟩ (by trivial) rfl ?_)
          conv => whnf
          refine ⟨by kernel_rfl, ?_⟩
          conv => whnf
          refine splF (decide_eq_false a4) ?_
          conv => whnf
          obtain ⟨c1, c2⟩ := cnt_same hv
          refine fit64 (by omega) ?_
          conv => whnf
          refine ⟨_, ?_, _, _, _, rfl, .refl _, i + 1, hik, ?_, ?_, rfl⟩
          · omega
          · rw [c1]; rfl
          · rw [c1, c2]; rfl
      · have hv : p.cv x i = false := by rw [hcv]; simp [a1, a3]
        conv => whnf
        refine splT (by simp only [decide_eq_true_eq, decide_eq_false_iff_not, Bool.not_eq_true', Bool.not_eq_false', gt_iff_lt, ge_iff_le] <;> omega) ?_
        conv => whnf
        refine ⟨(by (try simp only [true_and, and_true, Nat.sub_zero, Nat.zero_add, Int.toNat_natCast]) <;> omega), ?_⟩
        conv => whnf
        refine splF (by simpa using a1) ?_
        conv => whnf
        refine splF (by simpa using a3) ?_
        conv => whnf
        refine ⟨by kernel_rfl, ?_⟩
        conv => whnf
        obtain ⟨c1, c2⟩ := cnt_same hv
        refine fit64 (by omega) ?_
        conv => whnf
        refine ⟨_, ?_, _, _, _, rfl, .refl _, i + 1, hik, ?_, ?_, rfl⟩
        · omega
        · rw [c1]; rfl
        · rw [c1, c2]; rfl
  · obtain rfl : i = p.nc := by omega
    conv => whnf
    refine splF (by simp only [decide_eq_true_eq, decide_eq_false_iff_not, Bool.not_eq_true', Bool.not_eq_false', gt_iff_lt, ge_iff_le] <;> omega) ?_
    conv => whnf
    exact ⟨_, _, _, rfl, .refl _, rfl, rfl, rfl⟩
theorem refFeasible_ok {p : Pr} (hp : p.H) {x : Nat → RR} {n : Nat} (hx : XH x n) : ACall Tryz.prog 14 [p.a, rats x n] (.f (.bool (p.feas x n))) := by
  have v0 := ref11Valid_ok hp
  unfold Pr.feas
  by_cases h0 : p.err = 0
  · rw [h0] at v0
    by_cases hn : n = p.nc
    · have he := Pr.errS_zero.2 ⟨h0, hn⟩
      have v1 := refViolated_ok hp hx he
      unfold rvioRes at v1
      rw [decide_eq_true he, Bool.true_and]
      subst hn
      generalize cnt (p.cv x) p.nc = a at *
      generalize cnt (p.rv x) p.nr = b at *
      by_cases h1 : a = 0
      · refine acall_rule env [0, 1, 2, 4, 5, 6, 17] Tryz.func14 rfl rfl rfl rfl ?_
        conv => whnf
        first | refine callF v0 ⟨.refl _, trivial⟩ (by trivial) rfl ?_ | ((repeat (refine ⟨by kernel_rfl, ?_⟩; (conv => whnf))); refine callF v0 ⟨.refl _, trivial⟩ (by trivial) rfl ?_)
        conv => whnf
        refine splF (by simp) ?_
        conv => whnf
        first | refine callF v1 ⟨.refl _, .refl _, trivial⟩ (by trivial) rfl ?_ | ((repeat (refine ⟨by kernel_rfl, ?_⟩; (conv => whnf))); refine callF v1 ⟨.refl _, .refl _, trivial⟩ (by trivial) rfl ?_)
        conv => whnf
        refine splT (decide_eq_true (by omega)) ?_
        conv => whnf
        refine ⟨(by (try simp only [true_and, and_true, Nat.sub_zero, Nat.zero_add, Int.toNat_natCast]) <;> omega), ?_⟩
        refine .bool_of ?_
        rw [decide_eq_true h1, Bool.true_and]
        exact decide_eq_decide.2 (by omega)
      · refine acall_rule env [0, 1, 2, 4, 5, 6, 17] Tryz.func14 rfl rfl rfl rfl ?_
        conv => whnf
        first | refine callF v0 ⟨.refl _, trivial⟩ (by trivial) rfl ?_ | ((repeat (refine ⟨by kernel_rfl, ?_⟩; (conv => whnf))); refine callF v0 ⟨.refl _, trivial⟩ (by trivial) rfl ?_)
        conv => whnf
        refine splF (by simp) ?_
        conv => whnf
        first | refine callF v1 ⟨.refl _, .refl _, trivial⟩ (by trivial) rfl ?_ | ((repeat (refine ⟨by kernel_rfl, ?_⟩; (conv => whnf))); refine callF v1 ⟨.refl _, .refl _, trivial⟩ (by trivial) rfl ?_)
        conv => whnf
        refine splF (decide_eq_false (by omega)) ?_
        conv => whnf
        refine ⟨(by (try simp only [true_and, and_true, Nat.sub_zero, Nat.zero_add, Int.toNat_natCast]) <;> omega), ?_⟩
        refine .bool_of ?_
        rw [decide_eq_false h1]; rfl
    · have he : ¬ p.errS n p.nc = 0 := fun h => hn (Pr.errS_zero.1 h).2
      rw [decide_eq_false he, Bool.false_and]
      refine acall_rule env [0, 1, 2, 4, 5, 6, 17] Tryz.func14 rfl rfl rfl rfl ?_
      conv => whnf
      first | refine callF v0 ⟨.refl _, trivial⟩ (by trivial) rfl ?_ | ((repeat (refine ⟨by kernel_rfl, ?_⟩; (conv => whnf))); refine callF v0 ⟨.refl _, trivial⟩ (by trivial) rfl ?_)
      conv => whnf
      refine splT (by simp; omega) ?_
      conv => whnf
      (repeat (refine ⟨by kernel_rfl, ?_⟩; (conv => whnf)))
      refine ⟨(by (try simp only [true_and, and_true, Nat.sub_zero, Nat.zero_add, Int.toNat_natCast]) <;> omega), ?_⟩
      exact .refl _
  · have he : ¬ p.errS n p.nc = 0 := fun h => h0 (Pr.errS_zero.1 h).1
    rw [decide_eq_false he, Bool.false_and]
    generalize p.err = E at *
    refine acall_rule env [0, 1, 2, 4, 5, 6, 17] Tryz.func14 rfl rfl rfl rfl ?_
    conv => whnf
    first | refine callF v0 ⟨.refl _, trivial⟩ (by trivial) rfl ?_ | ((repeat (refine ⟨by kernel_rfl, ?_⟩; (conv => whnf))); refine callF v0 ⟨.refl _, trivial⟩ (by trivial) rfl ?_)
    conv => whnf
    refine splT (by simp [h0]) ?_
    conv => whnf
    (repeat (refine ⟨by kernel_rfl, ?_⟩; (conv => whnf)))
    refine ⟨(by (try simp only [true_and, and_true, Nat.sub_zero, Nat.zero_add, Int.toNat_natCast]) <;> omega), ?_⟩
    exact .refl _
end Go.Abs

/- The reference's linear programs: multipliers. -/
set_option autoImplicit false
set_option maxHeartbeats 4000000
set_option maxRecDepth 10000
set_option linter.unusedVariables false
set_option linter.unusedSimpArgs false
namespace Go.Abs
open Go Go.Proofs

theorem refReduced_ok {p : Pr} (hp : p.H) {y : Nat → RR} {n : Nat} (hy : XH y n) (he : p.errS n p.nr = 0) : ACall Tryz.prog 59 [p.a, rats y n] (ratsRes (p.red y) p.nc) := by
  obtain ⟨e1, e2⟩ := Pr.errS_zero.1 he
  obtain ⟨b1, b2, _, _⟩ := Pr.err_facts e1
  subst e2
  have hrs := fun j (hj : j < p.nc) i (hi : i ≤ p.nr) => red_sz hp hy b2 hj i hi
  refine acall_rule env [0, 1, 2, 4, 5, 6, 7, 9, 14, 31, 39, 45, 46, 47, 48] Tryz.func59 rfl rfl rfl rfl ?_
  conv => whnf
  refine .weak (nil_weak 5 26 3 (by decide) rfl rfl) ?_
  refine loop_mod [1, 2, 4, 5, 6] [2, 26] [1, 2, 4, 5] [2, 26]
    (fun μ fr hp_ => ∃ i : Nat, i ≤ p.nc ∧ fr = [(1, rats y p.nr), bpk 2 2, (4, nilQ), (5, .lsl 26 1 3 0 i none), (6, .f (.int .i64 i))] ∧
      hp_ = [bxk 2 [.f (.sl 11 (fun j => (p.c j).c) p.nc none), .f (.sl 5 (fun i => (p.r i).c) p.nr none)], (26, 1, .fa 3 i (fun j => (RR.of (p.c j).w.v).c))] ∧ μ = p.nc - i)
    (fun e fr hp_ => e = .exit 0 ∧ fr = [(1, rats y p.nr), bpk 2 2, (4, nilQ), (5, .lsl 26 1 3 0 p.nc none)] ∧
      hp_ = [bxk 2 [.f (.sl 11 (fun j => (p.c j).c) p.nc none), .f (.sl 5 (fun i => (p.r i).c) p.nr none)], (26, 1, .fa 3 p.nc (fun j => (RR.of (redP p y 0 j)).c))])
    ⟨_, _, _, _, rfl, ?_, 0, Nat.zero_le _, rfl, rfl, rfl⟩ ?_ ?_
  · exact ⟨⟨rfl, rfl⟩, .refl _, ⟨rfl, rfl⟩, .fa fun j hj => absurd hj (Nat.not_lt_zero _), trivial⟩
  · rintro _ _ _ ⟨rfl, rfl, rfl⟩
    conv => whnf
    refine loop_mod [1, 2, 4, 5, 7] [2, 26] [4, 5] [26]
      (fun μ fr hp_ => ∃ i : Nat, i ≤ p.nr ∧ fr = [(1, rats y p.nr), bpk 2 2, (4, nilQ), (5, .lsl 26 1 3 0 p.nc none), (7, .f (.int .i64 i))] ∧
        hp_ = [bxk 2 [.f (.sl 11 (fun j => (p.c j).c) p.nc none), .f (.sl 5 (fun i => (p.r i).c) p.nr none)], (26, 1, .fa 3 p.nc (fun j => (RR.of (redP p y i j)).c))] ∧ μ = p.nr - i)
      (fun e fr hp_ => e = .exit 2 ∧ fr = [(4, nilQ), (5, .lsl 26 1 3 0 p.nc none)] ∧ hp_ = [(26, 1, .fa 3 p.nc (fun j => (RR.of (p.red y j)).c))])
      ⟨_, _, _, _, rfl, .refl _, 0, Nat.zero_le _, rfl, rfl, rfl⟩ ?_ ?_
    · rintro _ _ _ ⟨rfl, rfl, rfl⟩
      conv => whnf
      refine ⟨(by (try simp only [true_and, and_true, Nat.sub_zero, Nat.zero_add, Int.toNat_natCast]) <;> omega), ?_⟩
      refine .f (.sl (fun j hj => ?_) (.inl rfl))
      simp only [Nat.zero_add]
      exact .fle_rr _
    rintro μ _ _ ⟨i, hi, rfl, rfl, rfl⟩
    by_cases hik : i < p.nr
    · have s1 := sSign_ok (hy.ok i hik).is (by have := hy.s i hik; omega)
      have hx0 : rcmp (y i).v 0 = 0 ↔ (y i).v = 0 := rcmp_zero
      have hstep : ∀ j, redP p y (i + 1) j = redP p y i j - (y i).v * (p.r i).at j := by intro j; unfold redP; rw [qsum]; grind
      by_cases hz : (y i).v = 0
      · rw [hx0.2 hz] at s1
        have hsame : (fun j => redP p y (i + 1) j) = fun j => redP p y i j := by funext j; rw [hstep, hz]; grind
        conv => whnf
        refine splT (by simp only [decide_eq_true_eq, decide_eq_false_iff_not, Bool.not_eq_true', Bool.not_eq_false', gt_iff_lt, ge_iff_le] <;> omega) ?_
        conv => whnf
        refine ⟨(by (try simp only [true_and, and_true, Nat.sub_zero, Nat.zero_add, Int.toNat_natCast]) <;> omega), ?_⟩
        conv => whnf
        first | refine callF s1 ⟨.refl _, trivial⟩ (by trivial) rfl ?_ | ((repeat (refine ⟨by kernel_rfl, ?_⟩; (conv => whnf))); refine callF s1 ⟨.refl _, trivial⟩ (by trivial) rfl ?_)
        conv => whnf
        refine fit64 (by omega) ?_
        conv => whnf
        refine ⟨_, ?_, _, _, _, rfl, .refl _, i + 1, hik, rfl, ?_, rfl⟩
        · omega
        · have : ∀ j, redP p y (i + 1) j = redP p y i j := fun j => congrFun hsame j
          simp only [this]; rfl
      · have hne : ¬ rcmp (y i).v 0 = 0 := fun h => hz (hx0.1 h)
        have hrow := hp.row e1 hik
        have hz0 : ∀ j, redP p y i j - (y i).v * atP (p.r i) 0 j = redP p y i j := by intro j; unfold atP; rw [qsum]; grind
        have hzk : ∀ j, redP p y i j - (y i).v * atP (p.r i) (p.r i).k j = redP p y (i + 1) j := by intro j; rw [hstep]; rfl
        have hrk := hrow.k
        clear hstep hx0
        conv => whnf
        refine splT (by simp only [decide_eq_true_eq, decide_eq_false_iff_not, Bool.not_eq_true', Bool.not_eq_false', gt_iff_lt, ge_iff_le] <;> omega) ?_
        conv => whnf
        refine ⟨(by (try simp only [true_and, and_true, Nat.sub_zero, Nat.zero_add, Int.toNat_natCast]) <;> omega), ?_⟩
        conv => whnf
        first | refine callF s1 ⟨.refl _, trivial⟩ (by trivial) rfl ?_ | ((repeat (refine ⟨by kernel_rfl, ?_⟩; (conv => whnf))); refine callF s1 ⟨.refl _, trivial⟩ (by trivial) rfl ?_)
        conv => whnf
        refine splF (decide_eq_false hne) ?_
        conv => whnf
        refine ⟨(by (try simp only [true_and, and_true, Nat.sub_zero, Nat.zero_add, Int.toNat_natCast]) <;> omega), ?_⟩
        conv => whnf
        refine loop_mod [1, 2, 4, 5, 7, 45, 46, 47] [2, 26] [1, 2, 4, 5, 7] [2, 26]
          (fun μ fr hp_ => ∃ k : Nat, k ≤ (p.r i).k ∧ fr = [(1, rats y p.nr), bpk 2 2, (4, nilQ), (5, .lsl 26 1 3 0 p.nc none), (7, .f (.int .i64 i)),
              (45, .f (.sl 4 (fun j => ((p.r i).e j).c) (p.r i).k none)), (46, .f (.int .i64 (p.r i).k)), (47, .f (.int .i64 k))] ∧
            hp_ = [bxk 2 [.f (.sl 11 (fun j => (p.c j).c) p.nc none), .f (.sl 5 (fun i => (p.r i).c) p.nr none)], (26, 1, .fa 3 p.nc (fun j => (RR.of (redP p y i j - (y i).v * atP (p.r i) k j)).c))] ∧ μ = (p.r i).k - k)
          (fun e fr hp_ => e = .exit 4 ∧ fr = [(1, rats y p.nr), bpk 2 2, (4, nilQ), (5, .lsl 26 1 3 0 p.nc none), (7, .f (.int .i64 i))] ∧
            hp_ = [bxk 2 [.f (.sl 11 (fun j => (p.c j).c) p.nc none), .f (.sl 5 (fun i => (p.r i).c) p.nr none)], (26, 1, .fa 3 p.nc (fun j => (RR.of (redP p y (i + 1) j)).c))])
          ⟨_, _, _, _, rfl, ?_, 0, Nat.zero_le _, rfl, rfl, rfl⟩ ?_ ?_
        · refine ⟨⟨rfl, rfl⟩, .refl _, ⟨rfl, rfl⟩, .fa fun j hj => ?_, trivial⟩
          rw [hz0]; exact .fle_rr _
        · rintro _ _ _ ⟨rfl, rfl, rfl⟩
          conv => whnf
          refine fit64 (by omega) ?_
          conv => whnf
          refine ⟨_, ?_, _, _, _, rfl, .refl _, i + 1, hik, rfl, rfl, rfl⟩
          omega
        rintro μ _ _ ⟨k, hk, rfl, rfl, rfl⟩
        by_cases hkk : k < (p.r i).k
        · have hin := hrow.i k hkk
          obtain ⟨J, hJ⟩ : ∃ J : Nat, ((p.r i).e k).i = J := ⟨((p.r i).e k).i.toNat, by omega⟩
          have hJn : J < p.nc := by omega
          have hes := hrow.s k hkk
          have m1 := sMul_ok (hy.ok i hik).is (hrow.ok.e k hkk).v.is (by have := hy.s i hik; omega)
          have zm := rsz_mul (hy.ok i hik).size (hrow.ok.e k hkk).v.size
          have zD : rsz (redP p y i J - (y i).v * atP (p.r i) k J) ≤ 40000000 := by
            have h1 := at_sz (hp.ok.r i hik) J k hk
            have h2 := rsz_mul (hy.ok i hik).size h1
            have h3 := rsz_sub (hrs J hJn i hi) h2
            have := hy.s i hik
            have h5 := Pr.rsz hik
            have h6 := hp.s
            have h7 : (p.r i).sz = (p.r i).b.sz + (p.r i).esz + 1 := rfl
            exact Nat.le_trans h3 (by omega)
          have u1 := sSub_ok (isR_rat _ zD) (isR_rat _ zm) (by have := hy.s i hik; omega)
          have hat : ∀ j : Nat, atP (p.r i) (k + 1) j = atP (p.r i) k j + (if ((p.r i).e k).i = j then ((p.r i).e k).v.v else 0) := fun j => rfl
          have hnew : redP p y i J - (y i).v * atP (p.r i) k J - (y i).v * ((p.r i).e k).v.v = redP p y i J - (y i).v * atP (p.r i) (k + 1) J := by rw [hat, if_pos hJ]; grind
          rw [hnew] at u1
          have hold : ∀ j : Nat, j ≠ J → redP p y i j - (y i).v * atP (p.r i) (k + 1) j = redP p y i j - (y i).v * atP (p.r i) k j := by intro j hj; rw [hat, if_neg (by omega)]; grind
          rw [← RR.of_a] at u1
          have hJ1 : 0 + ((p.r i).e (Int.toNat (k : Int))).i.toNat = J := by rw [Int.toNat_natCast]; omega
          conv => whnf
          refine splT (by simp only [decide_eq_true_eq, decide_eq_false_iff_not, Bool.not_eq_true', Bool.not_eq_false', gt_iff_lt, ge_iff_le] <;> omega) ?_
          conv => whnf
          refine ⟨(by (try simp only [true_and, and_true, Nat.sub_zero, Nat.zero_add, Int.toNat_natCast]) <;> omega), ?_⟩
          conv => whnf
          refine ⟨by rw [Int.toNat_natCast]; omega, ?_⟩
          conv => whnf
          refine ⟨(by (try simp only [true_and, and_true, Nat.sub_zero, Nat.zero_add, Int.toNat_natCast]) <;> omega), ?_⟩
          conv => whnf
          refine ⟨(by (try simp only [true_and, and_true, Nat.sub_zero, Nat.zero_add, Int.toNat_natCast]) <;> omega), ?_⟩
          conv => whnf
          first | refine callF m1 ⟨.refl _, .refl _, trivial⟩ (by trivial) rfl ?_ | ((repeat (refine ⟨by kernel_rfl, ?_⟩; (conv => whnf))); refine callF m1 ⟨.refl _, .refl _, trivial⟩ (by trivial) rfl ?_)
          conv => whnf
          refine callF u1 ⟨?_, .refl _, trivial⟩ (by trivial) rfl ?_
          · rw [hJ1]; exact .refl _
          conv => whnf
          refine ⟨by rw [Int.toNat_natCast]; omega, ?_⟩
          conv => whnf
          refine ⟨by rw [hJ1]; exact hJn, ?_⟩
          conv => whnf
          refine ⟨by kernel_rfl, ?_⟩
          conv => whnf
          refine fit64 (by omega) ?_
          conv => whnf
          refine ⟨_, ?_, _, _, _, rfl, ?_, k + 1, hkk, rfl, rfl, rfl⟩
          · omega
          refine ⟨⟨rfl, rfl⟩, .refl _, ⟨rfl, rfl⟩, .fa fun j hj => upd_le (i := J) hJ1 (fun h => ?_) (fun h => ?_), trivial⟩
          · subst h; exact All2.fle_rr (RR.of (redP p y i j - (y i).v * atP (p.r i) (k + 1) j))
          · rw [hold j h]; exact .fle_rr _
        · obtain rfl : k = (p.r i).k := by omega
          conv => whnf
          refine splF (by simp only [decide_eq_true_eq, decide_eq_false_iff_not, Bool.not_eq_true', Bool.not_eq_false', gt_iff_lt, ge_iff_le] <;> omega) ?_
          conv => whnf
          refine ⟨_, _, _, rfl, ?_, rfl, rfl, rfl⟩
          refine ⟨⟨rfl, rfl⟩, .refl _, ⟨rfl, rfl⟩, .fa fun j hj => ?_, trivial⟩
          rw [hzk]; exact .fle_rr _
    · obtain rfl : i = p.nr := by omega
      conv => whnf
      refine splF (by simp only [decide_eq_true_eq, decide_eq_false_iff_not, Bool.not_eq_true', Bool.not_eq_false', gt_iff_lt, ge_iff_le] <;> omega) ?_
      conv => whnf
      exact ⟨_, _, _, rfl, .refl _, rfl, rfl, rfl⟩
  rintro μ _ _ ⟨i, hi, rfl, rfl, rfl⟩
  by_cases hik : i < p.nc
  · have hsz : (p.c i).sz ≤ 4194304 := Nat.le_trans (Pr.csz hik) hp.s
    unfold Co.sz at hsz
    have a1 := sNorm_ok (hp.ok.c i hik).w.is (by omega)
    conv => whnf
    refine splT (by simp only [decide_eq_true_eq, decide_eq_false_iff_not, Bool.not_eq_true', Bool.not_eq_false', gt_iff_lt, ge_iff_le] <;> omega) ?_
    conv => whnf
    refine ⟨(by (try simp only [true_and, and_true, Nat.sub_zero, Nat.zero_add, Int.toNat_natCast]) <;> omega), ?_⟩
    conv => whnf
    first | refine callF a1 ⟨.refl _, trivial⟩ (by trivial) rfl ?_ | ((repeat (refine ⟨by kernel_rfl, ?_⟩; (conv => whnf))); refine callF a1 ⟨.refl _, trivial⟩ (by trivial) rfl ?_)
    conv => whnf
    refine ⟨⟨(show 1 ≤ 3 / 3 - 0 by decide), by omega, by omega, (show (i + 1) * 56 ≤ 140737488355328 by omega)⟩, ?_⟩
    conv => whnf
    refine fit64 (by omega) ?_
    conv => whnf
    refine ⟨_, ?_, _, _, [bxk 2 [.f (.sl 11 (fun j => (p.c j).c) p.nc none), .f (.sl 5 (fun i => (p.r i).c) p.nr none)], (26, 1, .fa 3 (i + 1) (fun j => (RR.of (p.c j).w.v).c))], rfl, ⟨⟨rfl, rfl⟩, .refl _, ⟨rfl, rfl⟩, .fa fun j hj => more_rr (f := fun j => RR.of (p.c j).w.v) hj rfl, trivial⟩, i + 1, hik, rfl, rfl, rfl⟩
    omega
  · obtain rfl : i = p.nc := by omega
    conv => whnf
    refine splF (by simp only [decide_eq_true_eq, decide_eq_false_iff_not, Bool.not_eq_true', Bool.not_eq_false', gt_iff_lt, ge_iff_le] <;> omega) ?_
    conv => whnf
    refine ⟨_, _, _, rfl, ?_, rfl, rfl, rfl⟩
    refine ⟨⟨rfl, rfl⟩, .refl _, ⟨rfl, rfl⟩, .fa fun j hj => ?_, trivial⟩
    have : redP p y 0 j = (p.c j).w.v := by unfold redP; rw [qsum]; grind
    rw [this]; exact .fle_rr _

theorem refSigned_ok {p : Pr} (hp : p.H) {y : Nat → RR} {n : Nat} (hy : XH y n) : ACall Tryz.prog 58 [p.a, rats y n] (.f (.bool (p.sgnd y n))) := by
  have v0 := ref11Valid_ok hp
  unfold Pr.sgnd
  by_cases he : p.errS n p.nr = 0
  · obtain ⟨e1, e2⟩ := Pr.errS_zero.1 he
    obtain ⟨b1, b2, _, _⟩ := Pr.err_facts e1
    rw [decide_eq_true he, Bool.true_and]
    rw [e1] at v0
    subst e2
    obtain ⟨B, hB⟩ : ∃ B, allB (fun i => signB (p.r i).s (y i).v) p.nr = B := ⟨_, rfl⟩
    rw [hB]
    refine acall_rule env [0, 1, 2, 4, 5, 6, 17, 21, 52] Tryz.func58 rfl rfl rfl rfl ?_
    conv => whnf
    first | refine callF v0 ⟨.refl _, trivial⟩ (by trivial) rfl ?_ | ((repeat (refine ⟨by kernel_rfl, ?_⟩; (conv => whnf))); refine callF v0 ⟨.refl _, trivial⟩ (by trivial) rfl ?_)
    conv => whnf
    refine splF (by simp) ?_
    conv => whnf
    refine loop_mod [1, 2, 4, 5] [2] [4] []
      (fun μ fr hp_ => ∃ i : Nat, i ≤ p.nr ∧ allB (fun i => signB (p.r i).s (y i).v) i = true ∧ fr = [(1, rats y p.nr), bpk 2 2, (4, .f (.bool false)), (5, .f (.int .i64 i))] ∧ hp_ = [bxk 2 [.f (.sl 11 (fun j => (p.c j).c) p.nc none), .f (.sl 5 (fun i => (p.r i).c) p.nr none)]] ∧ μ = p.nr - i)
      (fun x fr hp_ => (x = .exit 0 ∧ B = true ∧ fr = [(4, .f (.bool false))] ∧ hp_ = []) ∨ (x = .ret ∧ B = false ∧ fr = [(4, .f (.bool false))] ∧ hp_ = []))
      ⟨_, _, _, _, rfl, .refl _, 0, Nat.zero_le _, rfl, rfl, rfl, rfl⟩ ?_ ?_
    · rintro _ _ _ (⟨rfl, rfl, rfl, rfl⟩ | ⟨rfl, rfl, rfl, rfl⟩)
      · conv => whnf
        (repeat (refine ⟨by kernel_rfl, ?_⟩; (conv => whnf)))
        refine ⟨(by (try simp only [true_and, and_true, Nat.sub_zero, Nat.zero_add, Int.toNat_natCast]) <;> omega), ?_⟩
        exact .refl _
      · conv => whnf
        (repeat (refine ⟨by kernel_rfl, ?_⟩; (conv => whnf)))
        refine ⟨(by (try simp only [true_and, and_true, Nat.sub_zero, Nat.zero_add, Int.toNat_natCast]) <;> omega), ?_⟩
        exact .refl _
    rintro μ _ _ ⟨i, hi, hall, rfl, rfl, rfl⟩
    by_cases hik : i < p.nr
    · have s1 := sSign_ok (hy.ok i hik).is (by have := hy.s i hik; omega)
      have hf : signB (p.r i).s (y i).v = false → B = false := fun h => hB.symm.trans (allB_false hik h)
      have hb : allB (fun i => signB (p.r i).s (y i).v) (i + 1) = signB (p.r i).s (y i).v := by rw [allB, hall, Bool.true_and]
      have q1 : decide (0 < (y i).v) = decide (rcmp (y i).v 0 > 0) := decide_eq_decide.2 rcmp_pos.symm
      have q2 : decide ((y i).v < 0) = decide (rcmp (y i).v 0 < 0) := decide_eq_decide.2 (by
        constructor
        · intro h; rw [rcmp_lt h]; decide
        · intro h; exact Rat.not_le.1 fun h' => by have := rcmp_le.2 h'; rw [rcmp_neg] at this; omega)
      have hsb : signB (p.r i).s (y i).v = !((decide ((p.r i).s = -1) && decide (0 < (y i).v)) || (decide ((p.r i).s = 1) && decide ((y i).v < 0))) := rfl
      rw [q1, q2] at hsb
      generalize rcmp (y i).v 0 = C at *
      clear q1 q2
      by_cases a1 : (p.r i).s = -1
      · by_cases a2 : C > 0
        · have hv : signB (p.r i).s (y i).v = false := by rw [hsb, decide_eq_true a1, decide_eq_true a2]; rfl
          conv => whnf
          refine splT (by simp only [decide_eq_true_eq, decide_eq_false_iff_not, Bool.not_eq_true', Bool.not_eq_false', gt_iff_lt, ge_iff_le] <;> omega) ?_
          conv => whnf
          refine ⟨(by (try simp only [true_and, and_true, Nat.sub_zero, Nat.zero_add, Int.toNat_natCast]) <;> omega), ?_⟩
          conv => whnf
          first | refine callF s1 ⟨.refl _, trivial⟩ (by trivial) rfl ?_ | ((repeat (refine ⟨by kernel_rfl, ?_⟩; (conv => whnf))); refine callF s1 ⟨.refl _, trivial⟩ (by trivial) rfl ?_)
          conv => whnf
          refine ⟨(by (try simp only [true_and, and_true, Nat.sub_zero, Nat.zero_add, Int.toNat_natCast]) <;> omega), ?_⟩
          conv => whnf
          refine splT (decide_eq_true a1) ?_
          conv => whnf
          refine splT (decide_eq_true a2) ?_
          conv => whnf
          exact ⟨_, _, _, rfl, .refl _, .inr ⟨rfl, hf hv, rfl, rfl⟩⟩
        · have hv : signB (p.r i).s (y i).v = true := by rw [hsb, decide_eq_false a2, decide_eq_false (show ¬ (p.r i).s = 1 by omega)]; simp
          conv => whnf
          refine splT (by simp only [decide_eq_true_eq, decide_eq_false_iff_not, Bool.not_eq_true', Bool.not_eq_false', gt_iff_lt, ge_iff_le] <;> omega) ?_
          conv => whnf
          refine ⟨(by (try simp only [true_and, and_true, Nat.sub_zero, Nat.zero_add, Int.toNat_natCast]) <;> omega), ?_⟩
          conv => whnf
          first | refine callF s1 ⟨.refl _, trivial⟩ (by trivial) rfl ?_ | ((repeat (refine ⟨by kernel_rfl, ?_⟩; (conv => whnf))); refine callF s1 ⟨.refl _, trivial⟩ (by trivial) rfl ?_)
          conv => whnf
          refine ⟨(by (try simp only [true_and, and_true, Nat.sub_zero, Nat.zero_add, Int.toNat_natCast]) <;> omega), ?_⟩
          conv => whnf
          refine splT (decide_eq_true a1) ?_
          conv => whnf
          refine splF (decide_eq_false a2) ?_
          conv => whnf
          refine ⟨(by (try simp only [true_and, and_true, Nat.sub_zero, Nat.zero_add, Int.toNat_natCast]) <;> omega), ?_⟩
          conv => whnf
          refine splF (decide_eq_false (show ¬ (p.r i).s = 1 by omega)) ?_
          conv => whnf
          refine fit64 (by omega) ?_
          conv => whnf
          refine ⟨_, ?_, _, _, _, rfl, .refl _, i + 1, hik, by rw [hb, hv], rfl, rfl, rfl⟩
          omega
      · by_cases a3 : (p.r i).s = 1
        · by_cases a4 : C < 0
          · have hv : signB (p.r i).s (y i).v = false := by rw [hsb, decide_eq_true a3, decide_eq_true a4]; simp
            conv => whnf
            refine splT (by simp only [decide_eq_true_eq, decide_eq_false_iff_not, Bool.not_eq_true', Bool.not_eq_false', gt_iff_lt, ge_iff_le] <;> omega) ?_
            conv => whnf
            refine ⟨(by (try simp only [true_and, and_true, Nat.sub_zero, Nat.zero_add, Int.toNat_natCast]) <;> omega), ?_⟩
            conv => whnf
            first | refine callF s1 ⟨.refl _, trivial⟩ (by trivial) rfl ?_ | ((repeat (refine ⟨by kernel_rfl, ?_⟩; (conv => whnf))); refine callF s1 ⟨.refl _, trivial⟩ (by trivial) rfl ?_)
            conv => whnf
            refine ⟨(by (try simp only [true_and, and_true, Nat.sub_zero, Nat.zero_add, Int.toNat_natCast]) <;> omega), ?_⟩
            conv => whnf
            refine splF (decide_eq_false a1) ?_
            conv => whnf
            refine ⟨(by (try simp only [true_and, and_true, Nat.sub_zero, Nat.zero_add, Int.toNat_natCast]) <;> omega), ?_⟩
            conv => whnf
            refine splT (decide_eq_true a3) ?_
            conv => whnf
            refine splT (decide_eq_true a4) ?_
            conv => whnf
            exact ⟨_, _, _, rfl, .refl _, .inr ⟨rfl, hf hv, rfl, rfl⟩⟩
          · have hv : signB (p.r i).s (y i).v = true := by rw [hsb, decide_eq_false a1, decide_eq_false a4]; simp
            conv => whnf
            refine splT (by simp only [decide_eq_true_eq, decide_eq_false_iff_not, Bool.not_eq_true', Bool.not_eq_false', gt_iff_lt, ge_iff_le] <;> omega) ?_
            conv => whnf
            refine ⟨(by (try simp only [true_and, and_true, Nat.sub_zero, Nat.zero_add, Int.toNat_natCast]) <;> omega), ?_⟩
            conv => whnf
            first | refine callF s1 ⟨.refl _, trivial⟩ (by trivial) rfl ?_ | ((repeat (refine ⟨by kernel_rfl, ?_⟩; (conv => whnf))); refine callF s1 ⟨.refl _, trivial⟩ (by trivial) rfl ?_)
            conv => whnf
            refine ⟨(by (try simp only [true_and, and_true, Nat.sub_zero, Nat.zero_add, Int.toNat_natCast]) <;> omega), ?_⟩
            conv => whnf
            refine splF (decide_eq_false a1) ?_
            conv => whnf
            refine ⟨(by (try simp only [true_and, and_true, Nat.sub_zero, Nat.zero_add, Int.toNat_natCast]) <;> omega), ?_⟩
            conv => whnf
            refine splT (decide_eq_true a3) ?_
            conv => whnf
            refine splF (decide_eq_false a4) ?_
            conv => whnf
            refine fit64 (by omega) ?_
            conv => whnf
            refine ⟨_, ?_, _, _, _, rfl, .refl _, i + 1, hik, by rw [hb, hv], rfl, rfl, rfl⟩
            omega
        · have hv : signB (p.r i).s (y i).v = true := by rw [hsb, decide_eq_false a1, decide_eq_false a3]; simp
          conv => whnf
          refine splT (by simp only [decide_eq_true_eq, decide_eq_false_iff_not, Bool.not_eq_true', Bool.not_eq_false', gt_iff_lt, ge_iff_le] <;> omega) ?_
          conv => whnf
          refine ⟨(by (try simp only [true_and, and_true, Nat.sub_zero, Nat.zero_add, Int.toNat_natCast]) <;> omega), ?_⟩
          conv => whnf
          first | refine callF s1 ⟨.refl _, trivial⟩ (by trivial) rfl ?_ | ((repeat (refine ⟨by kernel_rfl, ?_⟩; (conv => whnf))); refine callF s1 ⟨.refl _, trivial⟩ (by trivial) rfl ?_)
          conv => whnf
          refine ⟨(by (try simp only [true_and, and_true, Nat.sub_zero, Nat.zero_add, Int.toNat_natCast]) <;> omega), ?_⟩
          conv => whnf
          refine splF (decide_eq_false a1) ?_
          conv => whnf
          refine ⟨(by (try simp only [true_and, and_true, Nat.sub_zero, Nat.zero_add, Int.toNat_natCast]) <;> omega), ?_⟩
          conv => whnf
          refine splF (decide_eq_false a3) ?_
          conv => whnf
          refine fit64 (by omega) ?_
          conv => whnf
          refine ⟨_, ?_, _, _, _, rfl, .refl _, i + 1, hik, by rw [hb, hv], rfl, rfl, rfl⟩
          omega
    · obtain rfl : i = p.nr := by omega
      conv => whnf
      refine splF (by simp only [decide_eq_true_eq, decide_eq_false_iff_not, Bool.not_eq_true', Bool.not_eq_false', gt_iff_lt, ge_iff_le] <;> omega) ?_
      conv => whnf
      exact ⟨_, _, _, rfl, .refl _, .inl ⟨rfl, by rw [← hB, hall], rfl, rfl⟩⟩
  · rw [decide_eq_false he, Bool.false_and]
    by_cases h0 : p.err = 0
    · have hn : n ≠ p.nr := fun h => he (Pr.errS_zero.2 ⟨h0, h⟩)
      rw [h0] at v0
      refine acall_rule env [0, 1, 2, 4, 5, 6, 17, 21, 52] Tryz.func58 rfl rfl rfl rfl ?_
      conv => whnf
      first | refine callF v0 ⟨.refl _, trivial⟩ (by trivial) rfl ?_ | ((repeat (refine ⟨by kernel_rfl, ?_⟩; (conv => whnf))); refine callF v0 ⟨.refl _, trivial⟩ (by trivial) rfl ?_)
      conv => whnf
      refine splT (by simp; omega) ?_
      conv => whnf
      (repeat (refine ⟨by kernel_rfl, ?_⟩; (conv => whnf)))
      refine ⟨(by (try simp only [true_and, and_true, Nat.sub_zero, Nat.zero_add, Int.toNat_natCast]) <;> omega), ?_⟩
      exact .refl _
    · generalize p.err = E at *
      refine acall_rule env [0, 1, 2, 4, 5, 6, 17, 21, 52] Tryz.func58 rfl rfl rfl rfl ?_
      conv => whnf
      first | refine callF v0 ⟨.refl _, trivial⟩ (by trivial) rfl ?_ | ((repeat (refine ⟨by kernel_rfl, ?_⟩; (conv => whnf))); refine callF v0 ⟨.refl _, trivial⟩ (by trivial) rfl ?_)
      conv => whnf
      refine splT (by simp [h0]) ?_
      conv => whnf
      (repeat (refine ⟨by kernel_rfl, ?_⟩; (conv => whnf)))
      refine ⟨(by (try simp only [true_and, and_true, Nat.sub_zero, Nat.zero_add, Int.toNat_natCast]) <;> omega), ?_⟩
      exact .refl _
theorem refBound_ok {p : Pr} (hp : p.H) {y : Nat → RR} {n : Nat} (hy : XH y n) : ACall Tryz.prog 24 [p.a, rats y n] (bndRes p y n) := by
  have sg := refSigned_ok hp hy
  have rd := fun he => refReduced_ok hp hy he
  have z1 := sZero_ok
  unfold bndRes Pr.bndOk
  cases hs : p.sgnd y n with
  | false =>
    rw [hs] at sg
    rw [if_neg (by simp)]
    refine acall_rule env [0, 1, 2, 4, 5, 6, 7, 8, 9, 10, 14, 20, 42, 54, 55, 59, 70, 74] Tryz.func24 rfl rfl rfl rfl ?_
    conv => whnf
    first | refine callF sg ⟨.refl _, .refl _, trivial⟩ (by trivial) rfl ?_ | ((repeat (refine ⟨by kernel_rfl, ?_⟩; (conv => whnf))); refine callF sg ⟨.refl _, .refl _, trivial⟩ (by trivial) rfl ?_)
    conv => whnf
    refine ⟨(by (try simp only [true_and, and_true, Nat.sub_zero, Nat.zero_add, Int.toNat_natCast]) <;> omega), ?_⟩
    exact .tup ⟨.rat0, .refl _, trivial⟩
  | true =>
    rw [hs] at sg
    rw [Bool.true_and]
    have he : p.errS n p.nr = 0 := by unfold Pr.sgnd at hs; simp only [Bool.and_eq_true, decide_eq_true_eq] at hs; exact hs.1
    have rd := rd he
    obtain ⟨e1, e2⟩ := Pr.errS_zero.1 he
    obtain ⟨b1, b2, _, _⟩ := Pr.err_facts e1
    subst e2
    have ht1 : ∀ i, i < p.nr → rsz ((y i).v * (p.r i).b.v) ≤ 8388608 := by
      intro i hi
      have h1 := prod_sz (hy.ok i hi) (hp.ok.r i hi).b
      have h2 := Pr.rsz hi
      have h3 := hp.s
      have h4 := hy.s i hi
      unfold Ro.sz at h2
      omega
    have hp1 : ∀ i, i ≤ p.nr → rsz (qsum (fun i => (y i).v * (p.r i).b.v) i) ≤ 137455730690 := by
      intro i hi
      have := qpart_sz ht1 hi
      have h2 : p.nr * (8388608 + 1) ≤ 16384 * (8388608 + 1) := Nat.mul_le_mul_right _ b2
      omega
    have hp2 : ∀ j, j ≤ p.nc → rsz (qsum (fun j => colB (p.c j) (p.red y j)) j) ≤ 481304838145 := by
      intro j hj
      have := qpart_sz (fun j hj => colB_sz hp hy b2 hj) hj
      have h2 : p.nc * (29376515 + 1) ≤ 16384 * (29376515 + 1) := Nat.mul_le_mul_right _ b1
      omega
    have hrz : ∀ j, j < p.nc → rsz (p.red y j) ≤ 25182211 := fun j hj => red_sz hp hy b2 hj p.nr (Nat.le_refl _)
    obtain ⟨B, hB⟩ : ∃ B, allB (fun j => colHas (p.c j) (p.red y j)) p.nc = B := ⟨_, rfl⟩
    rw [hB]
    obtain ⟨Y, hY⟩ : ∃ Y, qsum (fun i => (y i).v * (p.r i).b.v) p.nr = Y := ⟨_, rfl⟩
    have hYz : rsz Y ≤ 137455730690 := by rw [← hY]; exact hp1 _ (Nat.le_refl _)
    have hbnd : p.bnd y = Y + qsum (fun j => colB (p.c j) (p.red y j)) p.nc := by rw [← hY]; rfl
    rw [hbnd]
    refine acall_rule env [0, 1, 2, 4, 5, 6, 7, 8, 9, 10, 14, 20, 42, 54, 55, 59, 70, 74] Tryz.func24 rfl rfl rfl rfl ?_
    conv => whnf
    first | refine callF sg ⟨.refl _, .refl _, trivial⟩ (by trivial) rfl ?_ | ((repeat (refine ⟨by kernel_rfl, ?_⟩; (conv => whnf))); refine callF sg ⟨.refl _, .refl _, trivial⟩ (by trivial) rfl ?_)
    conv => whnf
    first | refine callF z1 trivial (by trivial) rfl ?_ | ((repeat (refine ⟨by kernel_rfl, ?_⟩; (conv => whnf))); refine callF z1 trivial (by trivial) rfl ?_)
    conv => whnf
    refine loop_mod [1, 2, 4, 5, 6, 7] [2, 4, 6] [1, 2, 4, 5, 6] [2, 4, 6]
      (fun μ fr hp_ => ∃ i : Nat, i ≤ p.nr ∧ fr = [(1, rats y p.nr), bpk 2 2, bp3 4, (5, .f (.bool false)), bp3 6, (7, .f (.int .i64 i))] ∧
        hp_ = [bxk 2 [.f (.sl 11 (fun j => (p.c j).c) p.nc none), .f (.sl 5 (fun i => (p.r i).c) p.nr none)], bx3 4 zR, bx3 6 (ratL (qsum (fun i => (y i).v * (p.r i).b.v) i))] ∧ μ = p.nr - i)
      (fun e fr hp_ => e = .exit 0 ∧ fr = [(1, rats y p.nr), bpk 2 2, bp3 4, (5, .f (.bool false)), bp3 6] ∧
        hp_ = [bxk 2 [.f (.sl 11 (fun j => (p.c j).c) p.nc none), .f (.sl 5 (fun i => (p.r i).c) p.nr none)], bx3 4 zR, bx3 6 (ratL Y)])
      ⟨_, _, _, _, rfl, .refl _, 0, Nat.zero_le _, rfl, rfl, rfl⟩ ?_ ?_
    · rintro _ _ _ ⟨rfl, rfl, rfl⟩
      have hY0 : Y + qsum (fun j => colB (p.c j) (p.red y j)) 0 = Y := by rw [qsum]; exact Rat.add_zero _
      clear hY ht1 hp1
      conv => whnf
      first | refine callF rd ⟨.refl _, .refl _, trivial⟩ (by trivial) rfl ?_ | ((repeat (refine ⟨by kernel_rfl, ?_⟩; (conv => whnf))); refine callF rd ⟨.refl _, .refl _, trivial⟩ (by trivial) rfl ?_)
      conv => whnf
      refine loop_mod [2, 4, 5, 6, 8, 9] [2, 4, 6] [4, 5, 6] [4, 6]
        (fun μ fr hp_ => ∃ i : Nat, i ≤ p.nc ∧ allB (fun j => colHas (p.c j) (p.red y j)) i = true ∧ fr = [bpk 2 2, bp3 4, (5, .f (.bool false)), bp3 6, (8, ratsRes (p.red y) p.nc), (9, .f (.int .i64 i))] ∧
          hp_ = [bxk 2 [.f (.sl 11 (fun j => (p.c j).c) p.nc none), .f (.sl 5 (fun i => (p.r i).c) p.nr none)], bx3 4 zR, bx3 6 (ratL (Y + qsum (fun j => colB (p.c j) (p.red y j)) i))] ∧ μ = p.nc - i)
        (fun e fr hp_ => (e = .exit 2 ∧ B = true ∧ fr = [bp3 4, (5, .f (.bool false)), bp3 6] ∧ hp_ = [bx3 4 zR, bx3 6 (ratL (Y + qsum (fun j => colB (p.c j) (p.red y j)) p.nc))]) ∨
          (e = .ret ∧ B = false ∧ ∃ q, fr = [bp3 4, (5, .f (.bool false)), bp3 6] ∧ hp_ = [bx3 4 zR, bx3 6 (ratL q)]))
        ⟨_, _, _, _, rfl, ?_, 0, Nat.zero_le _, rfl, rfl, rfl, rfl⟩ ?_ ?_
      · exact ⟨⟨rfl, rfl⟩, .refl _, ⟨rfl, rfl⟩, .refl _, ⟨rfl, rfl⟩, by rw [hY0]; exact .refl _, trivial⟩
      · rintro _ _ _ (⟨rfl, rfl, rfl, rfl⟩ | ⟨rfl, rfl, q, rfl, rfl⟩)
        · rw [if_pos rfl]
          conv => whnf
          (repeat (refine ⟨by kernel_rfl, ?_⟩; (conv => whnf)))
          refine ⟨(by (try simp only [true_and, and_true, Nat.sub_zero, Nat.zero_add, Int.toNat_natCast]) <;> omega), ?_⟩
          exact .refl _
        · rw [if_neg (by simp)]
          conv => whnf
          refine ⟨(by (try simp only [true_and, and_true, Nat.sub_zero, Nat.zero_add, Int.toNat_natCast]) <;> omega), ?_⟩
          exact .tup ⟨.rat0, .refl _, trivial⟩
      rintro μ _ _ ⟨i, hi, hall, rfl, rfl, rfl⟩
      by_cases hik : i < p.nc
      · have hc := hp.ok.c i hik
        have hsz : (p.c i).sz ≤ 4194304 := Nat.le_trans (Pr.csz hik) hp.s
        unfold Co.sz at hsz
        have zr := hrz i hik
        have s1 := sSign_ok (isR_rat _ zr) (by omega)
        have hf : colHas (p.c i) (p.red y i) = false → B = false := fun h => hB.symm.trans (allB_false hik h)
        have hb : allB (fun j => colHas (p.c j) (p.red y j)) (i + 1) = colHas (p.c i) (p.red y i) := by rw [allB, hall, Bool.true_and]
        have hS : Y + qsum (fun j => colB (p.c j) (p.red y j)) (i + 1) = Y + qsum (fun j => colB (p.c j) (p.red y j)) i + colB (p.c i) (p.red y i) := by rw [qsum]; grind
        have zq := rsz_add hYz (hp2 i hi)
        have hcH : colHas (p.c i) (p.red y i) = ((decide (p.red y i = 0)) || (decide (0 < p.red y i) && (p.c i).hl) || (decide (p.red y i < 0) && (p.c i).hu)) := rfl
        have hcB : colB (p.c i) (p.red y i) = if 0 < p.red y i then p.red y i * (p.c i).lo.v else if p.red y i < 0 then p.red y i * (p.c i).up.v else 0 := rfl
        have m1 := sMul_ok (isR_rat _ zr) hc.lo.is (by omega)
        have m2 := sMul_ok (isR_rat _ zr) hc.up.is (by omega)
        have zm1 := rsz_mul zr hc.lo.size
        have zm2 := rsz_mul zr hc.up.size
        rcases rcmp_cases (p.red y i) with ⟨h1, h2⟩ | ⟨h1, h2⟩ | ⟨h1, h2⟩
        · rw [h2] at s1
          rw [decide_eq_false (show ¬ p.red y i = 0 by grind), decide_eq_true h1, decide_eq_false (show ¬ p.red y i < 0 by grind)] at hcH
          rw [if_pos h1] at hcB
          cases hhl : (p.c i).hl with
          | true =>
            rw [hhl] at hcH
            have a1 := sAdd_ok (isR_rat _ zq) (isR_rat _ zm1) (by omega)
            rw [hcB] at hS
            rw [← hS] at a1
            conv => whnf
            refine splT (by simp only [decide_eq_true_eq, decide_eq_false_iff_not, Bool.not_eq_true', Bool.not_eq_false', gt_iff_lt, ge_iff_le] <;> omega) ?_
            conv => whnf
            refine ⟨(by (try simp only [true_and, and_true, Nat.sub_zero, Nat.zero_add, Int.toNat_natCast]) <;> omega), ?_⟩
            conv => whnf
            refine ⟨(by (try simp only [true_and, and_true, Nat.sub_zero, Nat.zero_add, Int.toNat_natCast]) <;> omega), ?_⟩
            conv => whnf
            first | refine callF s1 ⟨.refl _, trivial⟩ (by trivial) rfl ?_ | ((repeat (refine ⟨by kernel_rfl, ?_⟩; (conv => whnf))); refine callF s1 ⟨.refl _, trivial⟩ (by trivial) rfl ?_)
            conv => whnf
            refine splF (show (!(p.c i).hl) = false by rw [hhl]; rfl) ?_
            conv => whnf
            refine ⟨(by (try simp only [true_and, and_true, Nat.sub_zero, Nat.zero_add, Int.toNat_natCast]) <;> omega), ?_⟩
            conv => whnf
            first | refine callF m1 ⟨.refl _, .refl _, trivial⟩ (by trivial) rfl ?_ | ((repeat (refine ⟨by kernel_rfl, ?_⟩; (conv => whnf))); refine callF m1 ⟨.refl _, .refl _, trivial⟩ (by trivial) rfl ?_)
            conv => whnf
            first | refine callF a1 ⟨.refl _, .refl _, trivial⟩ (by trivial) rfl ?_ | ((repeat (refine ⟨by kernel_rfl, ?_⟩; (conv => whnf))); refine callF a1 ⟨.refl _, .refl _, trivial⟩ (by trivial) rfl ?_)
            conv => whnf
            refine ⟨by kernel_rfl, ?_⟩
            conv => whnf
            refine fit64 (by omega) ?_
            conv => whnf
            refine ⟨_, ?_, _, _, _, rfl, .refl _, i + 1, hik, by rw [hb, hcH]; rfl, rfl, rfl, rfl⟩
            omega
          | false =>
            rw [hhl] at hcH
            conv => whnf
            refine splT (by simp only [decide_eq_true_eq, decide_eq_false_iff_not, Bool.not_eq_true', Bool.not_eq_false', gt_iff_lt, ge_iff_le] <;> omega) ?_
            conv => whnf
            refine ⟨(by (try simp only [true_and, and_true, Nat.sub_zero, Nat.zero_add, Int.toNat_natCast]) <;> omega), ?_⟩
            conv => whnf
            refine ⟨(by (try simp only [true_and, and_true, Nat.sub_zero, Nat.zero_add, Int.toNat_natCast]) <;> omega), ?_⟩
            conv => whnf
            first | refine callF s1 ⟨.refl _, trivial⟩ (by trivial) rfl ?_ | ((repeat (refine ⟨by kernel_rfl, ?_⟩; (conv => whnf))); refine callF s1 ⟨.refl _, trivial⟩ (by trivial) rfl ?_)
            conv => whnf
            refine splT (show (!(p.c i).hl) = true by rw [hhl]; rfl) ?_
            conv => whnf
            exact ⟨_, _, _, rfl, .refl _, .inr ⟨rfl, hf (by rw [hcH]; rfl), _, rfl, rfl⟩⟩
        · rw [h2] at s1
          rw [decide_eq_true h1] at hcH
          rw [if_neg (by grind), if_neg (by grind)] at hcB
          rw [hcB, Rat.add_zero] at hS
          conv => whnf
          refine splT (by simp only [decide_eq_true_eq, decide_eq_false_iff_not, Bool.not_eq_true', Bool.not_eq_false', gt_iff_lt, ge_iff_le] <;> omega) ?_
          conv => whnf
          refine ⟨(by (try simp only [true_and, and_true, Nat.sub_zero, Nat.zero_add, Int.toNat_natCast]) <;> omega), ?_⟩
          conv => whnf
          refine ⟨(by (try simp only [true_and, and_true, Nat.sub_zero, Nat.zero_add, Int.toNat_natCast]) <;> omega), ?_⟩
          conv => whnf
          first | refine callF s1 ⟨.refl _, trivial⟩ (by trivial) rfl ?_ | ((repeat (refine ⟨by kernel_rfl, ?_⟩; (conv => whnf))); refine callF s1 ⟨.refl _, trivial⟩ (by trivial) rfl ?_)
          conv => whnf
          refine fit64 (by omega) ?_
          conv => whnf
          refine ⟨_, ?_, _, _, _, rfl, .refl _, i + 1, hik, by rw [hb, hcH]; rfl, rfl, by rw [hS]; rfl, rfl⟩
          omega
        · rw [h2] at s1
          rw [decide_eq_false (show ¬ p.red y i = 0 by grind), decide_eq_false (show ¬ 0 < p.red y i by grind), decide_eq_true h1] at hcH
          rw [if_neg (by grind), if_pos h1] at hcB
          cases hhu : (p.c i).hu with
          | true =>
            rw [hhu] at hcH
            have a1 := sAdd_ok (isR_rat _ zq) (isR_rat _ zm2) (by omega)
            rw [hcB] at hS
            rw [← hS] at a1
            conv => whnf
            refine splT (by simp only [decide_eq_true_eq, decide_eq_false_iff_not, Bool.not_eq_true', Bool.not_eq_false', gt_iff_lt, ge_iff_le] <;> omega) ?_
            conv => whnf
            refine ⟨(by (try simp only [true_and, and_true, Nat.sub_zero, Nat.zero_add, Int.toNat_natCast]) <;> omega), ?_⟩
            conv => whnf
            refine ⟨(by (try simp only [true_and, and_true, Nat.sub_zero, Nat.zero_add, Int.toNat_natCast]) <;> omega), ?_⟩
            conv => whnf
            first | refine callF s1 ⟨.refl _, trivial⟩ (by trivial) rfl ?_ | ((repeat (refine ⟨by kernel_rfl, ?_⟩; (conv => whnf))); refine callF s1 ⟨.refl _, trivial⟩ (by trivial) rfl ?_)
            conv => whnf
            refine splF (show (!(p.c i).hu) = false by rw [hhu]; rfl) ?_
            conv => whnf
            refine ⟨(by (try simp only [true_and, and_true, Nat.sub_zero, Nat.zero_add, Int.toNat_natCast]) <;> omega), ?_⟩
            conv => whnf
            first | refine callF m2 ⟨.refl _, .refl _, trivial⟩ (by trivial) rfl ?_ | ((repeat (refine ⟨by kernel_rfl, ?_⟩; (conv => whnf))); refine callF m2 ⟨.refl _, .refl _, trivial⟩ (by trivial) rfl ?_)
            conv => whnf
            first | refine callF a1 ⟨.refl _, .refl _, trivial⟩ (by trivial) rfl ?_ | ((repeat (refine ⟨by kernel_rfl, ?_⟩; (conv => whnf))); refine callF a1 ⟨.refl _, .refl _, trivial⟩ (by trivial) rfl ?_)
            conv => whnf
            refine ⟨by kernel_rfl, ?_⟩
            conv => whnf
            refine fit64 (by omega) ?_
            conv => whnf
            refine ⟨_, ?_, _, _, _, rfl, .refl _, i + 1, hik, by rw [hb, hcH]; rfl, rfl, rfl, rfl⟩
            omega
          | false =>
            rw [hhu] at hcH
            conv => whnf
            refine splT (by simp only [decide_eq_true_eq, decide_eq_false_iff_not, Bool.not_eq_true', Bool.not_eq_false', gt_iff_lt, ge_iff_le] <;> omega) ?_
            conv => whnf
            refine ⟨(by (try simp only [true_and, and_true, Nat.sub_zero, Nat.zero_add, Int.toNat_natCast]) <;> omega), ?_⟩
            conv => whnf
            refine ⟨(by (try simp only [true_and, and_true, Nat.sub_zero, Nat.zero_add, Int.toNat_natCast]) <;> omega), ?_⟩
            conv => whnf
            first | refine callF s1 ⟨.refl _, trivial⟩ (by trivial) rfl ?_ | ((repeat (refine ⟨by kernel_rfl, ?_⟩; (conv => whnf))); refine callF s1 ⟨.refl _, trivial⟩ (by trivial) rfl ?_)
            conv => whnf
            refine splT (show (!(p.c i).hu) = true by rw [hhu]; rfl) ?_
            conv => whnf
            exact ⟨_, _, _, rfl, .refl _, .inr ⟨rfl, hf (by rw [hcH]; rfl), _, rfl, rfl⟩⟩
      · obtain rfl : i = p.nc := by omega
        conv => whnf
        refine splF (by simp only [decide_eq_true_eq, decide_eq_false_iff_not, Bool.not_eq_true', Bool.not_eq_false', gt_iff_lt, ge_iff_le] <;> omega) ?_
        conv => whnf
        exact ⟨_, _, _, rfl, .refl _, .inl ⟨rfl, by rw [← hB, hall], rfl, rfl⟩⟩
    rintro μ _ _ ⟨i, hi, rfl, rfl, rfl⟩
    by_cases hik : i < p.nr
    · have m1 := sMul_ok (hy.ok i hik).is (hp.ok.r i hik).b.is (by have := hy.s i hik; have := Pr.rsz hik; have := hp.s; unfold Ro.sz at *; omega)
      have zm := ht1 i hik
      have a1 := sAdd_ok (isR_rat _ (hp1 i hi)) (isR_rat _ zm) (by omega)
      have hS : qsum (fun i => (y i).v * (p.r i).b.v) (i + 1) = qsum (fun i => (y i).v * (p.r i).b.v) i + (y i).v * (p.r i).b.v := rfl
      rw [← hS] at a1
      conv => whnf
      refine splT (by simp only [decide_eq_true_eq, decide_eq_false_iff_not, Bool.not_eq_true', Bool.not_eq_false', gt_iff_lt, ge_iff_le] <;> omega) ?_
      conv => whnf
      refine ⟨(by (try simp only [true_and, and_true, Nat.sub_zero, Nat.zero_add, Int.toNat_natCast]) <;> omega), ?_⟩
      conv => whnf
      refine ⟨(by (try simp only [true_and, and_true, Nat.sub_zero, Nat.zero_add, Int.toNat_natCast]) <;> omega), ?_⟩
      conv => whnf
      first | refine callF m1 ⟨.refl _, .refl _, trivial⟩ (by trivial) rfl ?_ | ((repeat (refine ⟨by kernel_rfl, ?_⟩; (conv => whnf))); refine callF m1 ⟨.refl _, .refl _, trivial⟩ (by trivial) rfl ?_)
      conv => whnf
      first | refine callF a1 ⟨.refl _, .refl _, trivial⟩ (by trivial) rfl ?_ | ((repeat (refine ⟨by kernel_rfl, ?_⟩; (conv => whnf))); refine callF a1 ⟨.refl _, .refl _, trivial⟩ (by trivial) rfl ?_)
      conv => whnf
      refine ⟨by kernel_rfl, ?_⟩
      conv => whnf
      refine fit64 (by omega) ?_
      conv => whnf
      refine ⟨_, ?_, _, _, _, rfl, .refl _, i + 1, hik, rfl, rfl, rfl⟩
      omega
    · obtain rfl : i = p.nr := by omega
      rw [← hY]
      conv => whnf
      refine splF (by simp only [decide_eq_true_eq, decide_eq_false_iff_not, Bool.not_eq_true', Bool.not_eq_false', gt_iff_lt, ge_iff_le] <;> omega) ?_
      conv => whnf
      exact ⟨_, _, _, rfl, .refl _, rfl, rfl, rfl⟩
end Go.Abs

/- Continued fractions: whole, FromContinued. -/
set_option autoImplicit false
set_option maxHeartbeats 4000000
set_option maxRecDepth 10000
set_option linter.unusedVariables false
set_option linter.unusedSimpArgs false
namespace Go.Abs
open Go Go.Proofs

/-- the cells of an integer in a list -/
def intC (z : Int) : List FV := [.bool (decide (z < 0)), .sl 1 (fun j => [.int .u32 (digit z.natAbs j : Nat)]) (size z.natAbs) none]
/-- a list of integers -/
def ints (l : List Int) : AV := .f (.sl 2 (fun j => intC (l.getD j 0)) l.length none)
def fcRes (l : List Int) : AV := match ofCf l with
  | some v => .tup [rat v, .f (.bool true)]
  | none => .tup [rat0, .f (.bool false)]
theorem lsz_drop (l : List Int) : ∀ i, lsz (l.drop i) ≤ lsz l := by
  induction l with
  | nil => intro i; simp
  | cons z l ih =>
    intro i
    cases i with
    | zero => exact Nat.le_refl _
    | succ i => rw [List.drop_succ_cons, lsz_cons]; exact Nat.le_trans (ih i) (by omega)
theorem lsz_get {l : List Int} {i : Nat} (h : i < l.length) : isz l[i] + 2 + lsz (l.drop (i + 1)) ≤ lsz l := by
  have := lsz_drop l i
  rw [List.drop_eq_getElem_cons h, lsz_cons] at this
  exact this
theorem ints_get {l : List Int} {i : Nat} (h : i < l.length) : intC (l.getD i 0) = intC l[i] := by
  rw [List.getD_eq_getElem?_getD, List.getElem?_eq_getElem h]; rfl

end Go.Abs

/- Short rationals: plus, above, steps. -/
set_option autoImplicit false
set_option maxHeartbeats 4000000
set_option maxRecDepth 10000
set_option linter.unusedVariables false
set_option linter.unusedSimpArgs false
namespace Go.Abs
open Go Go.Proofs

/-- a fraction as data -/
def frc (p q : Int) : AV := .agg [.f (.bool (decide (p < 0))), nat p.natAbs, .f (.bool (decide (q < 0))), nat q.natAbs]
theorem above_ok {p q p' q' : Int} {B : Nat} (h1 : isz p ≤ B) (h2 : isz q ≤ B) (h3 : isz p' ≤ B) (h4 : isz q' ≤ B) (hB : B ≤ 1099511627776) :
    ACall Tryz.prog 155 [frc p q, frc p' q'] (int (p * q' - p' * q)) := by
  have m1 := iMul_ok (isI_int p h1) (isI_int q' h4) (by omega)
  have m2 := iMul_ok (isI_int p' h3) (isI_int q h2) (by omega)
  have s1 := iSub_ok (isI_int (p * q') (isz_mul h1 h4)) (isI_int (p' * q) (isz_mul h3 h2)) (by omega) (by omega)
  refine acall_rule env [0, 1, 2, 3, 4] Tryz.func155 rfl rfl rfl rfl ?_
  conv => whnf
  first | refine callF m1 ⟨.refl _, .refl _, trivial⟩ (by trivial) rfl ?_ | ((repeat (refine ⟨by kernel_rfl, ?_⟩; (conv => whnf))); refine callF m1 ⟨.refl _, .refl _, trivial⟩ (by trivial) rfl ?_)
  conv => whnf
  first | refine callF m2 ⟨.refl _, .refl _, trivial⟩ (by trivial) rfl ?_ | ((repeat (refine ⟨by kernel_rfl, ?_⟩; (conv => whnf))); refine callF m2 ⟨.refl _, .refl _, trivial⟩ (by trivial) rfl ?_)
  conv => whnf
  first | refine callF s1 ⟨.refl _, .refl _, trivial⟩ (by trivial) rfl ?_ | ((repeat (refine ⟨by kernel_rfl, ?_⟩; (conv => whnf))); refine callF s1 ⟨.refl _, .refl _, trivial⟩ (by trivial) rfl ?_)
  conv => whnf
  (repeat (refine ⟨by kernel_rfl, ?_⟩; (conv => whnf)))
  refine ⟨(by (try simp only [true_and, and_true, Nat.sub_zero, Nat.zero_add, Int.toNat_natCast]) <;> omega), ?_⟩
  exact .refl _
theorem plus_ok {p q p' q' k : Int} {B : Nat} (h1 : isz p ≤ B) (h2 : isz q ≤ B) (h3 : isz p' ≤ B) (h4 : isz q' ≤ B) (h5 : isz k ≤ B) (hB : B ≤ 1099511627776) :
    ACall Tryz.prog 148 [frc p q, frc p' q', int k] (frc (p + k * p') (q + k * q')) := by
  have m1 := iMul_ok (isI_int k h5) (isI_int p' h3) (by omega)
  have m2 := iMul_ok (isI_int k h5) (isI_int q' h4) (by omega)
  have s1 := iAdd_ok (isI_int p h1) (isI_int (k * p') (isz_mul h5 h3)) (by omega) (by omega)
  have s2 := iAdd_ok (isI_int q h2) (isI_int (k * q') (isz_mul h5 h4)) (by omega) (by omega)
  refine acall_rule env [0, 1, 2, 3, 4, 5, 6] Tryz.func148 rfl rfl rfl rfl ?_
  conv => whnf
  first | refine callF m1 ⟨.refl _, .refl _, trivial⟩ (by trivial) rfl ?_ | ((repeat (refine ⟨by kernel_rfl, ?_⟩; (conv => whnf))); refine callF m1 ⟨.refl _, .refl _, trivial⟩ (by trivial) rfl ?_)
  conv => whnf
  first | refine callF s1 ⟨.refl _, .refl _, trivial⟩ (by trivial) rfl ?_ | ((repeat (refine ⟨by kernel_rfl, ?_⟩; (conv => whnf))); refine callF s1 ⟨.refl _, .refl _, trivial⟩ (by trivial) rfl ?_)
  conv => whnf
  first | refine callF m2 ⟨.refl _, .refl _, trivial⟩ (by trivial) rfl ?_ | ((repeat (refine ⟨by kernel_rfl, ?_⟩; (conv => whnf))); refine callF m2 ⟨.refl _, .refl _, trivial⟩ (by trivial) rfl ?_)
  conv => whnf
  first | refine callF s2 ⟨.refl _, .refl _, trivial⟩ (by trivial) rfl ?_ | ((repeat (refine ⟨by kernel_rfl, ?_⟩; (conv => whnf))); refine callF s2 ⟨.refl _, .refl _, trivial⟩ (by trivial) rfl ?_)
  conv => whnf
  (repeat (refine ⟨by kernel_rfl, ?_⟩; (conv => whnf)))
  refine ⟨(by (try simp only [true_and, and_true, Nat.sub_zero, Nat.zero_add, Int.toNat_natCast]) <;> omega), ?_⟩
  exact .refl _
theorem steps_ok {p q p' q' xp xq M : Int} {m : AV} {B : Nat} (h1 : isz p ≤ B) (h2 : isz q ≤ B) (h3 : isz p' ≤ B) (h4 : isz q' ≤ B) (h5 : isz xp ≤ B) (h6 : isz xq ≤ B) (hm : IsI m M B) (hB : B ≤ 274877906944)
    (hb : p' * xq - xp * q' ≠ 0) (hq : q' ≠ 0) :
    ACall Tryz.prog 147 [frc p q, frc p' q', frc xp xq, m] (int (nbK ((xp * q - p * xq).natAbs : Nat) ((p' * xq - xp * q').natAbs : Nat) M q q')) := by
  have a1 := above_ok h5 h6 h1 h2 (show B ≤ 1099511627776 by omega)
  have a2 := above_ok h3 h4 h5 h6 (show B ≤ 1099511627776 by omega)
  have z1 := isz_sub (isz_mul h5 h2) (isz_mul h1 h6)
  have z2 := isz_sub (isz_mul h3 h6) (isz_mul h5 h4)
  have b1 := iAbs_ok (isI_int _ z1) (by omega)
  have b2 := iAbs_ok (isI_int _ z2) (by omega)
  rw [← isz_abs] at z1 z2
  have d1 := iDivMod_ok (isI_int _ z1) (isI_int _ z2) (by omega) (by omega)
  rw [idivRes, if_neg (by omega)] at d1
  have zm := hm.size
  have z3 := isz_sub zm h2
  have s1 := iSub_ok hm (isI_int q h2) (by omega) (by omega)
  have d2 := iDivMod_ok (isI_int _ z3) (isI_int _ h4) (by omega) (by omega)
  rw [idivRes, if_neg hq] at d2
  have c1 := iCompare_ok (isI_int _ (Nat.le_trans (isz_ediv _ q') z3)) (isI_int _ (Nat.le_trans (isz_ediv _ ((p' * xq - xp * q').natAbs : Nat)) z1)) (by omega) (by omega)
  unfold nbK
  obtain ⟨nm, gm, lm, _, hgm, hlm⟩ := hm
  generalize ival nm (nval gm lm) = M at *
  generalize (xp * q - p * xq) = A at *
  generalize (p' * xq - xp * q') = C at *
  generalize (M - q) / q' = N at *
  generalize ((A.natAbs : Nat) : Int) / (C.natAbs : Nat) = K at *
  by_cases h : N < K
  · rw [if_pos h]
    rw [icmp, if_pos h] at c1
    refine acall_rule env [0, 1, 2, 3, 4, 5, 6, 7, 8, 9, 12, 42] Tryz.func147 rfl rfl rfl rfl ?_
    conv => whnf
    first | refine callF a1 ⟨.refl _, .refl _, trivial⟩ (by trivial) rfl ?_ | ((repeat (refine ⟨by kernel_rfl, ?_⟩; (conv => whnf))); refine callF a1 ⟨.refl _, .refl _, trivial⟩ (by trivial) rfl ?_)
    conv => whnf
    first | refine callF b1 ⟨.refl _, trivial⟩ (by trivial) rfl ?_ | ((repeat (refine ⟨by kernel_rfl, ?_⟩; (conv => whnf))); refine callF b1 ⟨.refl _, trivial⟩ (by trivial) rfl ?_)
    conv => whnf
    first | refine callF a2 ⟨.refl _, .refl _, trivial⟩ (by trivial) rfl ?_ | ((repeat (refine ⟨by kernel_rfl, ?_⟩; (conv => whnf))); refine callF a2 ⟨.refl _, .refl _, trivial⟩ (by trivial) rfl ?_)
    conv => whnf
    first | refine callF b2 ⟨.refl _, trivial⟩ (by trivial) rfl ?_ | ((repeat (refine ⟨by kernel_rfl, ?_⟩; (conv => whnf))); refine callF b2 ⟨.refl _, trivial⟩ (by trivial) rfl ?_)
    conv => whnf
    first | refine callF d1 ⟨.refl _, .refl _, trivial⟩ (by trivial) rfl ?_ | ((repeat (refine ⟨by kernel_rfl, ?_⟩; (conv => whnf))); refine callF d1 ⟨.refl _, .refl _, trivial⟩ (by trivial) rfl ?_)
    conv => whnf
    first | refine callF s1 ⟨.refl _, .refl _, trivial⟩ (by trivial) rfl ?_ | ((repeat (refine ⟨by kernel_rfl, ?_⟩; (conv => whnf))); refine callF s1 ⟨.refl _, .refl _, trivial⟩ (by trivial) rfl ?_)
    conv => whnf
    first | refine callF d2 ⟨.refl _, .refl _, trivial⟩ (by trivial) rfl ?_ | ((repeat (refine ⟨by kernel_rfl, ?_⟩; (conv => whnf))); refine callF d2 ⟨.refl _, .refl _, trivial⟩ (by trivial) rfl ?_)
    conv => whnf
    first | refine callF c1 ⟨.refl _, .refl _, trivial⟩ (by trivial) rfl ?_ | ((repeat (refine ⟨by kernel_rfl, ?_⟩; (conv => whnf))); refine callF c1 ⟨.refl _, .refl _, trivial⟩ (by trivial) rfl ?_)
    conv => whnf
    (repeat (refine ⟨by kernel_rfl, ?_⟩; (conv => whnf)))
    refine ⟨(by (try simp only [true_and, and_true, Nat.sub_zero, Nat.zero_add, Int.toNat_natCast]) <;> omega), ?_⟩
    exact .refl _
  · rw [if_neg h]
    rw [icmp, if_neg h] at c1
    refine acall_rule env [0, 1, 2, 3, 4, 5, 6, 7, 8, 9, 12, 42] Tryz.func147 rfl rfl rfl rfl ?_
    conv => whnf
    first | refine callF a1 ⟨.refl _, .refl _, trivial⟩ (by trivial) rfl ?_ | ((repeat (refine ⟨by kernel_rfl, ?_⟩; (conv => whnf))); refine callF a1 ⟨.refl _, .refl _, trivial⟩ (by trivial) rfl ?_)
    conv => whnf
    first | refine callF b1 ⟨.refl _, trivial⟩ (by trivial) rfl ?_ | ((repeat (refine ⟨by kernel_rfl, ?_⟩; (conv => whnf))); refine callF b1 ⟨.refl _, trivial⟩ (by trivial) rfl ?_)
    conv => whnf
    first | refine callF a2 ⟨.refl _, .refl _, trivial⟩ (by trivial) rfl ?_ | ((repeat (refine ⟨by kernel_rfl, ?_⟩; (conv => whnf))); refine callF a2 ⟨.refl _, .refl _, trivial⟩ (by trivial) rfl ?_)
    conv => whnf
    first | refine callF b2 ⟨.refl _, trivial⟩ (by trivial) rfl ?_ | ((repeat (refine ⟨by kernel_rfl, ?_⟩; (conv => whnf))); refine callF b2 ⟨.refl _, trivial⟩ (by trivial) rfl ?_)
    conv => whnf
    first | refine callF d1 ⟨.refl _, .refl _, trivial⟩ (by trivial) rfl ?_ | ((repeat (refine ⟨by kernel_rfl, ?_⟩; (conv => whnf))); refine callF d1 ⟨.refl _, .refl _, trivial⟩ (by trivial) rfl ?_)
    conv => whnf
    first | refine callF s1 ⟨.refl _, .refl _, trivial⟩ (by trivial) rfl ?_ | ((repeat (refine ⟨by kernel_rfl, ?_⟩; (conv => whnf))); refine callF s1 ⟨.refl _, .refl _, trivial⟩ (by trivial) rfl ?_)
    conv => whnf
    first | refine callF d2 ⟨.refl _, .refl _, trivial⟩ (by trivial) rfl ?_ | ((repeat (refine ⟨by kernel_rfl, ?_⟩; (conv => whnf))); refine callF d2 ⟨.refl _, .refl _, trivial⟩ (by trivial) rfl ?_)
    conv => whnf
    first | refine callF c1 ⟨.refl _, .refl _, trivial⟩ (by trivial) rfl ?_ | ((repeat (refine ⟨by kernel_rfl, ?_⟩; (conv => whnf))); refine callF c1 ⟨.refl _, .refl _, trivial⟩ (by trivial) rfl ?_)
    conv => whnf
    refine splF (by simp only [decide_eq_true_eq, decide_eq_false_iff_not, Bool.not_eq_true', Bool.not_eq_false', gt_iff_lt, ge_iff_le] <;> omega) ?_
    conv => whnf
    (repeat (refine ⟨by kernel_rfl, ?_⟩; (conv => whnf)))
    refine ⟨(by (try simp only [true_and, and_true, Nat.sub_zero, Nat.zero_add, Int.toNat_natCast]) <;> omega), ?_⟩
    exact .refl _
end Go.Abs

/- Short rationals: neighbors, Below, Above. -/
set_option autoImplicit false
set_option maxHeartbeats 4000000
set_option maxRecDepth 10000
set_option linter.unusedVariables false
set_option linter.unusedSimpArgs false
namespace Go.Abs
open Go Go.Proofs

theorem Nb.Ok.sz0 {s : Nb} {xp xq M : Int} (h : s.Ok xp xq M) (hx : 1 ≤ xq) :
    (s.lp.natAbs : Int) ≤ xp.natAbs * M * M + 1 ∧ (s.hp.natAbs : Int) ≤ xp.natAbs * M * M + 1 := by
  obtain ⟨l1, h1, lm, hm, a0, b0, det⟩ := h
  unfold Nb.a at a0
  unfold Nb.b at b0
  obtain ⟨lp, lq, hp, hq⟩ := s
  simp only at *
  obtain ⟨X, hX⟩ : ∃ X : Int, (xp.natAbs : Int) = X := ⟨_, rfl⟩
  rw [hX]
  have x1 : xp ≤ X := by omega
  have x2 : -X ≤ xp := by omega
  have x0 : 0 ≤ X := by omega
  have p1 : X * lq ≤ X * M := Int.mul_le_mul_of_nonneg_left lm x0
  have p2 : X * hq ≤ X * M := Int.mul_le_mul_of_nonneg_left hm x0
  have p3 : xp * lq ≤ X * lq := Int.mul_le_mul_of_nonneg_right x1 (by omega)
  have p4 : -X * hq ≤ xp * hq := Int.mul_le_mul_of_nonneg_right x2 (by omega)
  rw [Int.neg_mul] at p4
  have p0 : 0 ≤ X * M := Int.mul_nonneg x0 (by omega)
  generalize X * M = P at *
  have pm : P ≤ P * M := le_mul_one p0 (by omega)
  have L1 : 0 ≤ lp → lp ≤ P := fun h => by have := le_mul_one (q := xq) h hx; omega
  have H1 : hp ≤ 0 → -hp ≤ P := fun h => by
    have := le_mul_one (k := -hp) (q := xq) (by omega) hx
    rw [Int.neg_mul] at this; omega
  have L2 : lp < 0 → -lp ≤ P * M + 1 := fun h => by
    have g1 := le_mul_one (k := -lp) (q := hq) (by omega) h1
    rw [Int.neg_mul] at g1
    rcases Int.lt_or_le 0 hp with g | g
    · have := Int.mul_nonneg (show 0 ≤ hp by omega) (show 0 ≤ lq by omega)
      omega
    · have g2 : -hp * lq ≤ P * lq := Int.mul_le_mul_of_nonneg_right (H1 g) (by omega)
      have g3 : P * lq ≤ P * M := Int.mul_le_mul_of_nonneg_left lm p0
      rw [Int.neg_mul] at g2; omega
  have H2 : 0 < hp → hp ≤ P * M + 1 := fun h => by
    have g1 := le_mul_one (k := hp) (q := lq) (by omega) l1
    rcases Int.lt_or_le lp 0 with g | g
    · have := Int.mul_nonneg (show 0 ≤ -lp by omega) (show 0 ≤ hq by omega)
      rw [Int.neg_mul] at this; omega
    · have g2 : lp * hq ≤ P * hq := Int.mul_le_mul_of_nonneg_right (L1 g) (by omega)
      have g3 : P * hq ≤ P * M := Int.mul_le_mul_of_nonneg_left hm p0
      omega
  generalize P * M = PM at *
  constructor
  · rcases Int.lt_or_le lp 0 with g | g
    · have := L2 g; omega
    · have := L1 g; omega
  · rcases Int.lt_or_le 0 hp with g | g
    · have := H2 g; omega
    · have := H1 g; omega
theorem Nb.Ok.sz {s : Nb} {xp xq M : Int} (h : s.Ok xp xq M) (hx : 1 ≤ xq) {t : Nat} (zx : isz xp ≤ t) (zm : isz M ≤ t) (ht : 1 ≤ t) :
    isz s.lp ≤ 3 * t + 1 ∧ isz s.lq ≤ t ∧ isz s.hp ≤ 3 * t + 1 ∧ isz s.hq ≤ t := by
  obtain ⟨e1, e2⟩ := h.sz0 hx
  have l1 := h.l1
  have h1 := h.h1
  have lm := h.lm
  have hm := h.hm
  have e3 : ((xp.natAbs * M.natAbs * M.natAbs + 1 : Nat) : Int) = xp.natAbs * M * M + 1 := by
    rw [Int.natCast_add, Int.natCast_mul, Int.natCast_mul, Int.natAbs_of_nonneg (show 0 ≤ M by omega)]; rfl
  rw [← e3] at e1 e2
  have z : size (xp.natAbs * M.natAbs * M.natAbs + 1) ≤ 3 * t + 1 := by
    have := size_add2 (size_mul2 (size_mul2 zx zm) zm) (show size 1 ≤ 1 by decide)
    omega
  exact ⟨Nat.le_trans (size_mono (Int.ofNat_le.1 e1)) z, Nat.le_trans (size_mono (by omega)) zm, Nat.le_trans (size_mono (Int.ofNat_le.1 e2)) z, Nat.le_trans (size_mono (by omega)) zm⟩
theorem nbK_sz {A B M q1 q2 : Int} (hA : 0 < A) (hB : 0 < B) (h1 : q1 ≤ M) (h0 : 1 ≤ q1) (h2 : 0 < q2) {t : Nat} (zm : isz M ≤ t) : isz (nbK A B M q1 q2) ≤ t := by
  obtain ⟨k0, _, k2, _⟩ := nbK_spec hA hB h1 h2
  have := le_mul_one (q := q2) k0 (by omega)
  exact Nat.le_trans (size_mono (by omega)) zm

/-- the cells of a fraction -/
def frL (p q : Int) : List AV := [.f (.bool (decide (p < 0))), nat p.natAbs, .f (.bool (decide (q < 0))), nat q.natAbs]
def bp2 (k : Nat) : Nat × AV := (k, .lptr k 1 2 0 0)
def bp4 (k : Nat) : Nat × AV := (k, .lptr k 1 4 0 0)
theorem neighbors_ok {x m : AV} {a : Rat} {M : Int} {s : Nat} (ha : IsR x a s) (hm : IsI m M s) (hs : s ≤ 1048576) (hM : 1 ≤ M) :
    ACall Tryz.prog 131 [x, m] (.tup [rat (nbRes a M).1, rat (nbRes a M).2]) := by
  have za := ha.size
  have zn := rsz_num za
  have zd := rsz_den za
  have n1 := qNorm_ok ha (by omega)
  have zq : isz ((a.den : Nat) : Int) ≤ s := by rw [isz_nat]; exact zd
  have zM := hm.size
  have c1 := iCompare_ok (isI_int _ zq) hm (by omega) (by omega)
  rw [int_nonneg] at c1
  have n2 := qNorm_ok (isR_rat a za) (by omega)
  have f1 := qFloor_ok (isR_rat a za) (by omega)
  have one := iFromInt_ok 1 (by decide)
  have zf := rsz_floor a za
  have ad := iAdd_ok (isI_int _ zf) (isI_int 1 (s := 1) (by decide)) (by omega) (by omega)
  obtain ⟨na, ga, la, ga', la', _, hga, hga', hna, hna', h1⟩ := ha
  generalize mkRat (ival na (nval ga la)) (nval ga' la') = a at *
  have hm0 := hm
  obtain ⟨nm, gm, lm, _, hgm, hlm⟩ := hm
  generalize ival nm (nval gm lm) = M at *
  unfold nbRes
  by_cases h : (a.den : Int) ≤ M
  · rw [if_pos h]
    rw [icmp] at c1
    refine acall_rule env [0, 1, 2, 3, 4, 5, 6, 7, 8, 9, 10, 11, 12, 13, 15, 29, 69] Tryz.func131 rfl rfl rfl rfl ?_
    conv => whnf
    first | refine callF n1 ⟨.refl _, trivial⟩ (by trivial) rfl ?_ | ((repeat (refine ⟨by kernel_rfl, ?_⟩; (conv => whnf))); refine callF n1 ⟨.refl _, trivial⟩ (by trivial) rfl ?_)
    conv => whnf
    first | refine callF c1 ⟨.refl _, .refl _, trivial⟩ (by trivial) rfl ?_ | ((repeat (refine ⟨by kernel_rfl, ?_⟩; (conv => whnf))); refine callF c1 ⟨.refl _, .refl _, trivial⟩ (by trivial) rfl ?_)
    conv => whnf
    refine splT (by simp only [decide_eq_true_eq, decide_eq_false_iff_not, Bool.not_eq_true', Bool.not_eq_false', gt_iff_lt, ge_iff_le] <;> omega) ?_
    conv => whnf
    first | refine callF n2 ⟨.refl _, trivial⟩ (by trivial) rfl ?_ | ((repeat (refine ⟨by kernel_rfl, ?_⟩; (conv => whnf))); refine callF n2 ⟨.refl _, trivial⟩ (by trivial) rfl ?_)
    conv => whnf
    (repeat (refine ⟨by kernel_rfl, ?_⟩; (conv => whnf)))
    refine ⟨(by (try simp only [true_and, and_true, Nat.sub_zero, Nat.zero_add, Int.toNat_natCast]) <;> omega), ?_⟩
    exact .refl _
  · rw [if_neg h]
    rw [icmp, if_neg (by omega), if_neg (by omega)] at c1
    have hmx : M < (a.den : Int) := by omega
    have hxq : (1 : Int) ≤ a.den := by omega
    have hcop : Int.gcd a.num a.den = 1 := a.reduced
    have ok0 := nb0_ok hM hmx
    refine acall_rule env [0, 1, 2, 3, 4, 5, 6, 7, 8, 9, 10, 11, 12, 13, 15, 29, 69] Tryz.func131 rfl rfl rfl rfl ?_
    conv => whnf
    first | refine callF n1 ⟨.refl _, trivial⟩ (by trivial) rfl ?_ | ((repeat (refine ⟨by kernel_rfl, ?_⟩; (conv => whnf))); refine callF n1 ⟨.refl _, trivial⟩ (by trivial) rfl ?_)
    conv => whnf
    first | refine callF c1 ⟨.refl _, .refl _, trivial⟩ (by trivial) rfl ?_ | ((repeat (refine ⟨by kernel_rfl, ?_⟩; (conv => whnf))); refine callF c1 ⟨.refl _, .refl _, trivial⟩ (by trivial) rfl ?_)
    conv => whnf
    first | refine callF one ⟨.refl _, trivial⟩ (by trivial) rfl ?_ | ((repeat (refine ⟨by kernel_rfl, ?_⟩; (conv => whnf))); refine callF one ⟨.refl _, trivial⟩ (by trivial) rfl ?_)
    conv => whnf
    first | refine callF f1 ⟨.refl _, trivial⟩ (by trivial) rfl ?_ | ((repeat (refine ⟨by kernel_rfl, ?_⟩; (conv => whnf))); refine callF f1 ⟨.refl _, trivial⟩ (by trivial) rfl ?_)
    conv => whnf
    first | refine callF ad ⟨.refl _, .refl _, trivial⟩ (by trivial) rfl ?_ | ((repeat (refine ⟨by kernel_rfl, ?_⟩; (conv => whnf))); refine callF ad ⟨.refl _, .refl _, trivial⟩ (by trivial) rfl ?_)
    conv => whnf
    refine ⟨by kernel_rfl, ?_⟩
    conv => whnf
    refine loop_mod [3, 4, 5, 6, 9, 10] [3, 4, 5, 6, 9, 10] [4, 5, 9, 10] [4, 5, 9, 10]
      (fun μ fr hp => ∃ st : Nb, st.Ok a.num a.den M ∧ 2 * M - st.lq - st.hq ≤ μ ∧ nbF (2 * M).toNat (nb0 a) a.num a.den M = nbF μ st a.num a.den M ∧
        fr = [bp2 3, bp3 4, bp3 5, bp4 6, bp4 9, bp4 10] ∧ hp = [bx3 3 [.f (.bool nm), raw gm lm], bx3 4 zR, bx3 5 zR, bx3 6 [.f (.bool (decide (a.num < 0))), nat a.num.natAbs, .f (.bool false), nat a.den], bx3 9 (frL st.lp st.lq), bx3 10 (frL st.hp st.hq)])
      (fun e fr hp => e = .exit 0 ∧ ∃ st : Nb, st.Ok a.num a.den M ∧ nbF (2 * M).toNat (nb0 a) a.num a.den M = st ∧
        fr = [bp3 4, bp3 5, bp4 9, bp4 10] ∧ hp = [bx3 4 zR, bx3 5 zR, bx3 9 (frL st.lp st.lq), bx3 10 (frL st.hp st.hq)])
      ⟨(2 * M).toNat, _, _, _, rfl, .refl _, nb0 a, ok0, by have := ok0.l1; have := ok0.h1; omega, rfl, rfl, rfl⟩ ?_ ?_
    · rintro _ _ _ ⟨rfl, st, ok, he, rfl, rfl⟩
      rw [he]
      obtain ⟨z1, z2, z3, z4⟩ := ok.sz hxq zn zM h1
      have w1 := New_ok (isI_int _ z1) (isI_int _ z2) (by omega) (by omega)
      have w2 := New_ok (isI_int _ z3) (isI_int _ z4) (by omega) (by omega)
      have l1 := ok.l1
      have h1 := ok.h1
      unfold newRes at w1 w2
      rw [if_neg (by omega)] at w1 w2
      conv => whnf
      first | refine callF w1 ⟨.refl _, .refl _, trivial⟩ (by trivial) rfl ?_ | ((repeat (refine ⟨by kernel_rfl, ?_⟩; (conv => whnf))); refine callF w1 ⟨.refl _, .refl _, trivial⟩ (by trivial) rfl ?_)
      conv => whnf
      first | refine callF w2 ⟨.refl _, .refl _, trivial⟩ (by trivial) rfl ?_ | ((repeat (refine ⟨by kernel_rfl, ?_⟩; (conv => whnf))); refine callF w2 ⟨.refl _, .refl _, trivial⟩ (by trivial) rfl ?_)
      conv => whnf
      refine ⟨by kernel_rfl, ?_⟩
      conv => whnf
      (repeat (refine ⟨by kernel_rfl, ?_⟩; (conv => whnf)))
      refine ⟨(by (try simp only [true_and, and_true, Nat.sub_zero, Nat.zero_add, Int.toNat_natCast]) <;> omega), ?_⟩
      exact .refl _
    rintro μ _ _ ⟨st, ok, hμ, he, rfl, rfl⟩
    obtain ⟨z1, z2, z3, z4⟩ := ok.sz hxq zn zM h1
    have a0 := ok.a0
    have b0 := ok.b0
    have l1 := ok.l1
    have h1' := ok.h1
    have lm1 := ok.lm
    have hm1 := ok.hm
    have zk : isz (st.k1 a.num a.den M) ≤ s := nbK_sz a0 b0 lm1 l1 (by omega) zM
    have s1 := steps_ok (p := st.lp) (q := st.lq) (p' := st.hp) (q' := st.hq) (xp := a.num) (xq := a.den) (B := 3 * s + 1) z1 (by omega) z3 (by omega) (by omega) (by omega) (hm0.mono (by omega)) (by omega) (show st.hp * a.den - a.num * st.hq ≠ 0 by unfold Nb.b at b0; omega) (show st.hq ≠ 0 by omega)
    rw [show ((a.num * st.lq - st.lp * a.den).natAbs : Int) = st.a a.num a.den by unfold Nb.a at *; omega, show ((st.hp * a.den - a.num * st.hq).natAbs : Int) = st.b a.num a.den by unfold Nb.b at *; omega] at s1
    change ACall Tryz.prog _ _ (int (st.k1 a.num a.den M)) at s1
    have p1 := plus_ok (p := st.lp) (q := st.lq) (p' := st.hp) (q' := st.hq) (B := 3 * s + 1) z1 (by omega) z3 (by omega) (show isz (st.k1 a.num a.den M) ≤ _ by omega) (by omega)
    change ACall Tryz.prog _ _ (frc (st.mid a.num a.den M).lp (st.mid a.num a.den M).lq) at p1
    have okm := ok.left hcop hmx
    change (st.mid a.num a.den M).Ok _ _ _ at okm
    have hmid : (st.mid a.num a.den M).hp = st.hp ∧ (st.mid a.num a.den M).hq = st.hq := ⟨rfl, rfl⟩
    obtain ⟨y1, y2, y3, y4⟩ := okm.sz hxq zn zM h1
    have a1 := okm.a0
    have b1 := okm.b0
    have l2 := okm.l1
    have lm2 := okm.lm
    have zj : isz (st.k2 a.num a.den M) ≤ s := nbK_sz b1 a1 hm1 h1' (by omega) zM
    have hk2 : nbK ((st.mid a.num a.den M).b a.num a.den) ((st.mid a.num a.den M).a a.num a.den) M st.hq (st.mid a.num a.den M).lq = st.k2 a.num a.den M := rfl
    have hnx : (st.hp + st.k2 a.num a.den M * (st.mid a.num a.den M).lp) = (st.next a.num a.den M).hp ∧ (st.hq + st.k2 a.num a.den M * (st.mid a.num a.den M).lq) = (st.next a.num a.den M).hq ∧ (st.mid a.num a.den M).lp = (st.next a.num a.den M).lp ∧ (st.mid a.num a.den M).lq = (st.next a.num a.den M).lq := ⟨rfl, rfl, rfl, rfl⟩
    have eA : (st.mid a.num a.den M).a a.num a.den = a.num * (st.mid a.num a.den M).lq - (st.mid a.num a.den M).lp * a.den := rfl
    have eB : (st.mid a.num a.den M).b a.num a.den = st.hp * a.den - a.num * st.hq := rfl
    have okn := ok.next hcop hmx
    have hdone : st.done a.num a.den M ↔ st.k1 a.num a.den M = 0 ∧ st.k2 a.num a.den M = 0 := Iff.rfl
    have hgrow := fun hd => ok.grow hcop hmx hd
    have hnF := fun hd f => nbF_next (s := st) (xp := a.num) (xq := a.den) (most := M) hd f
    have hdF := fun hd f => nbF_done (s := st) (xp := a.num) (xq := a.den) (most := M) hd f
    have hsame : st.done a.num a.den M → st.next a.num a.den M = st := by
      intro ⟨q1, q2⟩
      have hm2 : st.mid a.num a.den M = st := by
        unfold Nb.mid; unfold Nb.k1 at q1; rw [q1]; unfold Nb.left; simp
      unfold Nb.next; rw [q2, hm2]; unfold Nb.right; simp
    have s2 := steps_ok (p := st.hp) (q := st.hq) (p' := (st.mid a.num a.den M).lp) (q' := (st.mid a.num a.den M).lq) (xp := a.num) (xq := a.den) (B := 3 * s + 1) z3 (by omega) y1 (by omega) (show isz a.num ≤ _ by omega) (show isz (a.den : Int) ≤ _ by omega) (hm0.mono (by omega)) (by omega) (by omega) (by omega)
    have p2 := plus_ok (p := st.hp) (q := st.hq) (p' := (st.mid a.num a.den M).lp) (q' := (st.mid a.num a.den M).lq) (k := st.k2 a.num a.den M) (B := 3 * s + 1) z3 (by omega) y1 (by omega) (by omega) (by omega)
    rw [show ((a.num * st.hq - st.hp * a.den).natAbs : Int) = (st.mid a.num a.den M).b a.num a.den by omega, show (((st.mid a.num a.den M).lp * a.den - a.num * (st.mid a.num a.den M).lq).natAbs : Int) = (st.mid a.num a.den M).a a.num a.den by omega, hk2] at s2
    rw [hnx.1, hnx.2.1, hnx.2.2.1, hnx.2.2.2] at p2
    rw [hnx.2.2.1, hnx.2.2.2] at s2 p1
    have g1 := iSign_ok (isI_int _ zk) (by omega)
    have g2 := iSign_ok (isI_int _ zj) (by omega)
    clear hmid hnx eA eB hk2
    generalize st.k1 a.num a.den M = k at *
    generalize st.k2 a.num a.den M = j at *
    generalize st.next a.num a.den M = nx at *
    conv => whnf
    refine callF s1 ⟨.refl _, .refl _, .agg ⟨.refl _, .refl _, .bool_of (by simp), .refl _, trivial⟩, .refl _, trivial⟩ (by trivial) rfl ?_
    conv => whnf
    first | refine callF p1 ⟨.refl _, .refl _, .refl _, trivial⟩ (by trivial) rfl ?_ | ((repeat (refine ⟨by kernel_rfl, ?_⟩; (conv => whnf))); refine callF p1 ⟨.refl _, .refl _, .refl _, trivial⟩ (by trivial) rfl ?_)
    conv => whnf
    refine callF s2 ⟨.refl _, .refl _, .agg ⟨.refl _, .refl _, .bool_of (by simp), .refl _, trivial⟩, .refl _, trivial⟩ (by trivial) rfl ?_
    conv => whnf
    first | refine callF p2 ⟨.refl _, .refl _, .refl _, trivial⟩ (by trivial) rfl ?_ | ((repeat (refine ⟨by kernel_rfl, ?_⟩; (conv => whnf))); refine callF p2 ⟨.refl _, .refl _, .refl _, trivial⟩ (by trivial) rfl ?_)
    conv => whnf
    first | refine callF g1 ⟨.refl _, trivial⟩ (by trivial) rfl ?_ | ((repeat (refine ⟨by kernel_rfl, ?_⟩; (conv => whnf))); refine callF g1 ⟨.refl _, trivial⟩ (by trivial) rfl ?_)
    conv => whnf
    have hgo : ¬ st.done a.num a.den M → ∃ μ' : Nat, μ = μ' + 1 ∧ 2 * M - nx.lq - nx.hq ≤ μ' ∧ nbF (2 * M).toNat (nb0 a) a.num a.den M = nbF μ' nx a.num a.den M := by
      intro hd
      have q1 := hgrow hd
      have q2 := okn.lm
      have q3 := okn.hm
      obtain ⟨μ', rfl⟩ : ∃ μ' : Nat, μ = μ' + 1 := ⟨μ - 1, by omega⟩
      exact ⟨μ', rfl, by omega, by rw [he, hnF hd]⟩
    by_cases hk0 : k = 0
    · refine splT (decide_eq_true (sgn_iff.2 hk0)) ?_
      conv => whnf
      first | refine callF g2 ⟨.refl _, trivial⟩ (by trivial) rfl ?_ | ((repeat (refine ⟨by kernel_rfl, ?_⟩; (conv => whnf))); refine callF g2 ⟨.refl _, trivial⟩ (by trivial) rfl ?_)
      conv => whnf
      by_cases hj0 : j = 0
      · have hd := hdone.2 ⟨hk0, hj0⟩
        refine splT (decide_eq_true (sgn_iff.2 hj0)) ?_
        conv => whnf
        exact ⟨_, _, _, rfl, .refl _, rfl, nx, okn, by rw [he, hdF hd, hsame hd], rfl, rfl⟩
      · obtain ⟨μ', rfl, q1, q2⟩ := hgo (fun hd => hj0 (hdone.1 hd).2)
        refine splF (decide_eq_false (fun h => hj0 (sgn_iff.1 h))) ?_
        conv => whnf
        exact ⟨μ', by omega, _, _, _, rfl, .refl _, nx, okn, q1, q2, rfl, rfl⟩
    · obtain ⟨μ', rfl, q1, q2⟩ := hgo (fun hd => hk0 (hdone.1 hd).1)
      refine splF (decide_eq_false (fun h => hk0 (sgn_iff.1 h))) ?_
      conv => whnf
      exact ⟨μ', by omega, _, _, _, rfl, .refl _, nx, okn, q1, q2, rfl, rfl⟩

/-- what Below and Above answer -/
noncomputable def belowRes (a : Rat) (M : Int) : AV := if M < 1 then .tup [rat0, .f (.bool false)] else .tup [rat (nbRes a M).1, .f (.bool true)]
noncomputable def aboveRes (a : Rat) (M : Int) : AV := if M < 1 then .tup [rat0, .f (.bool false)] else .tup [rat (nbRes a M).2, .f (.bool true)]
theorem Below_ok {x m : AV} {a : Rat} {M : Int} {s : Nat} (ha : IsR x a s) (hm : IsI m M s) (hs : s ≤ 1048576) :
    ACall Tryz.prog 107 [x, m] (belowRes a M) := by
  have g1 := iSign_ok hm (by omega)
  have n1 := fun h => neighbors_ok ha hm hs h
  obtain ⟨na, ga, la, ga', la', _, hga, hga', hna, hna', h1⟩ := ha
  generalize mkRat (ival na (nval ga la)) (nval ga' la') = a at *
  obtain ⟨nm, gm, lm, _, hgm, hlm⟩ := hm
  generalize ival nm (nval gm lm) = M at *
  unfold belowRes
  by_cases h : M < 1
  · rw [if_pos h]
    refine acall_rule env [0, 1, 2, 3, 4, 5, 6, 10] Tryz.func107 rfl rfl rfl rfl ?_
    conv => whnf
    first | refine callF g1 ⟨.refl _, trivial⟩ (by trivial) rfl ?_ | ((repeat (refine ⟨by kernel_rfl, ?_⟩; (conv => whnf))); refine callF g1 ⟨.refl _, trivial⟩ (by trivial) rfl ?_)
    conv => whnf
    refine splT (decide_eq_true (by unfold sgn; split <;> (try split) <;> omega)) ?_
    conv => whnf
    refine ⟨(by (try simp only [true_and, and_true, Nat.sub_zero, Nat.zero_add, Int.toNat_natCast]) <;> omega), ?_⟩
    exact .tup ⟨.rat0, .refl _, trivial⟩
  · rw [if_neg h]
    replace n1 := n1 (by omega)
    refine acall_rule env [0, 1, 2, 3, 4, 5, 6, 10] Tryz.func107 rfl rfl rfl rfl ?_
    conv => whnf
    first | refine callF g1 ⟨.refl _, trivial⟩ (by trivial) rfl ?_ | ((repeat (refine ⟨by kernel_rfl, ?_⟩; (conv => whnf))); refine callF g1 ⟨.refl _, trivial⟩ (by trivial) rfl ?_)
    conv => whnf
    refine splF (decide_eq_false (by unfold sgn; split <;> (try split) <;> omega)) ?_
    conv => whnf
    first | refine callF n1 ⟨.refl _, .refl _, trivial⟩ (by trivial) rfl ?_ | ((repeat (refine ⟨by kernel_rfl, ?_⟩; (conv => whnf))); refine callF n1 ⟨.refl _, .refl _, trivial⟩ (by trivial) rfl ?_)
    conv => whnf
    (repeat (refine ⟨by kernel_rfl, ?_⟩; (conv => whnf)))
    refine ⟨(by (try simp only [true_and, and_true, Nat.sub_zero, Nat.zero_add, Int.toNat_natCast]) <;> omega), ?_⟩
    exact .refl _
theorem Above_ok {x m : AV} {a : Rat} {M : Int} {s : Nat} (ha : IsR x a s) (hm : IsI m M s) (hs : s ≤ 1048576) :
    ACall Tryz.prog 108 [x, m] (aboveRes a M) := by
  have g1 := iSign_ok hm (by omega)
  have n1 := fun h => neighbors_ok ha hm hs h
  obtain ⟨na, ga, la, ga', la', _, hga, hga', hna, hna', h1⟩ := ha
  generalize mkRat (ival na (nval ga la)) (nval ga' la') = a at *
  obtain ⟨nm, gm, lm, _, hgm, hlm⟩ := hm
  generalize ival nm (nval gm lm) = M at *
  unfold aboveRes
  by_cases h : M < 1
  · rw [if_pos h]
    refine acall_rule env [0, 1, 2, 3, 4, 5, 7, 10] Tryz.func108 rfl rfl rfl rfl ?_
    conv => whnf
    first | refine callF g1 ⟨.refl _, trivial⟩ (by trivial) rfl ?_ | ((repeat (refine ⟨by kernel_rfl, ?_⟩; (conv => whnf))); refine callF g1 ⟨.refl _, trivial⟩ (by trivial) rfl ?_)
    conv => whnf
    refine splT (decide_eq_true (by unfold sgn; split <;> (try split) <;> omega)) ?_
    conv => whnf
    refine ⟨(by (try simp only [true_and, and_true, Nat.sub_zero, Nat.zero_add, Int.toNat_natCast]) <;> omega), ?_⟩
    exact .tup ⟨.rat0, .refl _, trivial⟩
  · rw [if_neg h]
    replace n1 := n1 (by omega)
    refine acall_rule env [0, 1, 2, 3, 4, 5, 7, 10] Tryz.func108 rfl rfl rfl rfl ?_
    conv => whnf
    first | refine callF g1 ⟨.refl _, trivial⟩ (by trivial) rfl ?_ | ((repeat (refine ⟨by kernel_rfl, ?_⟩; (conv => whnf))); refine callF g1 ⟨.refl _, trivial⟩ (by trivial) rfl ?_)
    conv => whnf
    refine splF (decide_eq_false (by unfold sgn; split <;> (try split) <;> omega)) ?_
    conv => whnf
    first | refine callF n1 ⟨.refl _, .refl _, trivial⟩ (by trivial) rfl ?_ | ((repeat (refine ⟨by kernel_rfl, ?_⟩; (conv => whnf))); refine callF n1 ⟨.refl _, .refl _, trivial⟩ (by trivial) rfl ?_)
    conv => whnf
    (repeat (refine ⟨by kernel_rfl, ?_⟩; (conv => whnf)))
    refine ⟨(by (try simp only [true_and, and_true, Nat.sub_zero, Nat.zero_add, Int.toNat_natCast]) <;> omega), ?_⟩
    exact .refl _
end Go.Abs

/- Comparing answers with the reference's: points and multipliers. -/
set_option autoImplicit false
set_option maxHeartbeats 4000000
set_option maxRecDepth 10000
set_option linter.unusedVariables false
set_option linter.unusedSimpArgs false
namespace Go.Abs
open Go Go.Proofs

theorem XH.le {x : Nat → RR} {n m : Nat} (h : XH x n) (hm : m ≤ n) : XH x m :=
  ⟨fun j hj => h.ok j (by omega), fun j hj => h.s j (by omega), Nat.le_trans (nsum_le hm) h.t, Nat.le_trans hm h.n⟩
theorem sSame_ok (f : Nat → Rat) (n : Nat) (hz : ∀ j, j < n → rsz (f j) ≤ 4398046500000) (hn : n ≤ 1099511627776) : ACall Tryz.prog 27 [ratsRes f n, ratsRes f n] (.f (.bool true)) := by
  refine acall_rule env [0, 1, 4, 5, 10, 14, 42] Tryz.func27 rfl rfl rfl rfl ?_
  conv => whnf
  refine splF (by simp) ?_
  conv => whnf
  refine loop_mod [0, 1, 4, 5] [] [4] []
    (fun μ fr hp_ => ∃ i : Nat, i ≤ n ∧ fr = [(0, ratsRes f n), (1, ratsRes f n), (4, .f (.bool false)), (5, .f (.int .i64 i))] ∧ hp_ = [] ∧ μ = n - i)
    (fun x fr hp_ => x = .exit 0 ∧ fr = [(4, .f (.bool false))] ∧ hp_ = [])
    ⟨_, _, _, _, rfl, .refl _, 0, Nat.zero_le _, rfl, rfl, rfl⟩ ?_ ?_
  · rintro _ _ _ ⟨rfl, rfl, rfl⟩
    conv => whnf
    (repeat (refine ⟨by kernel_rfl, ?_⟩; (conv => whnf)))
    refine ⟨(by (try simp only [true_and, and_true, Nat.sub_zero, Nat.zero_add, Int.toNat_natCast]) <;> omega), ?_⟩
    exact .refl _
  rintro μ _ _ ⟨i, hi, rfl, rfl, rfl⟩
  by_cases hik : i < n
  · have c1 := sCanonical_rat (f i) (hz i hik)
    have c2 := sEqual_same (f i) (hz i hik)
    rw [← RR.of_a] at c1 c2
    conv => whnf
    refine splT (by simp only [decide_eq_true_eq, decide_eq_false_iff_not, Bool.not_eq_true', Bool.not_eq_false', gt_iff_lt, ge_iff_le] <;> omega) ?_
    conv => whnf
    refine ⟨(by (try simp only [true_and, and_true, Nat.sub_zero, Nat.zero_add, Int.toNat_natCast]) <;> omega), ?_⟩
    conv => whnf
    first | refine callF c1 ⟨.refl _, trivial⟩ (by trivial) rfl ?_ | ((repeat (refine ⟨by kernel_rfl, ?_⟩; (conv => whnf))); refine callF c1 ⟨.refl _, trivial⟩ (by trivial) rfl ?_)
    conv => whnf
    refine ⟨(by (try simp only [true_and, and_true, Nat.sub_zero, Nat.zero_add, Int.toNat_natCast]) <;> omega), ?_⟩
    conv => whnf
    first | refine callF c1 ⟨.refl _, trivial⟩ (by trivial) rfl ?_ | ((repeat (refine ⟨by kernel_rfl, ?_⟩; (conv => whnf))); refine callF c1 ⟨.refl _, trivial⟩ (by trivial) rfl ?_)
    conv => whnf
    refine ⟨(by (try simp only [true_and, and_true, Nat.sub_zero, Nat.zero_add, Int.toNat_natCast]) <;> omega), ?_⟩
    conv => whnf
    refine ⟨(by (try simp only [true_and, and_true, Nat.sub_zero, Nat.zero_add, Int.toNat_natCast]) <;> omega), ?_⟩
    conv => whnf
    first | refine callF c2 ⟨.refl _, .refl _, trivial⟩ (by trivial) rfl ?_ | ((repeat (refine ⟨by kernel_rfl, ?_⟩; (conv => whnf))); refine callF c2 ⟨.refl _, .refl _, trivial⟩ (by trivial) rfl ?_)
    conv => whnf
    refine ⟨by kernel_rfl, ?_⟩
    conv => whnf
    refine fit64 (by omega) ?_
    conv => whnf
    refine ⟨_, ?_, _, _, _, rfl, .refl _, i + 1, hik, rfl, rfl, rfl⟩
    omega
  · obtain rfl : i = n := by omega
    conv => whnf
    refine splF (by simp only [decide_eq_true_eq, decide_eq_false_iff_not, Bool.not_eq_true', Bool.not_eq_false', gt_iff_lt, ge_iff_le] <;> omega) ?_
    conv => whnf
    exact ⟨_, _, _, rfl, .refl _, rfl, rfl, rfl⟩
theorem hFirst_ok (x : Nat → RR) (n k : Nat) (hn : n ≤ 1099511627776) (hk : k ≤ 1099511627776) : ACall Tryz.prog 26 [rats x n, .f (.int .i64 k)] (rats x (min n k)) := by
  by_cases h : k < n
  · rw [Nat.min_eq_right (by omega)]
    refine acall_rule env [0, 1, 4, 8] Tryz.func26 rfl rfl rfl rfl ?_
    conv => whnf
    refine splT (by simp; omega) ?_
    conv => whnf
    refine ⟨(by (try simp only [true_and, and_true, Nat.sub_zero, Nat.zero_add, Int.toNat_natCast]) <;> omega), ?_⟩
    conv => whnf
    (repeat (refine ⟨by kernel_rfl, ?_⟩; (conv => whnf)))
    refine ⟨(by (try simp only [true_and, and_true, Nat.sub_zero, Nat.zero_add, Int.toNat_natCast]) <;> omega), ?_⟩
    exact .refl _
  · rw [Nat.min_eq_left (by omega)]
    refine acall_rule env [0, 1, 4, 8] Tryz.func26 rfl rfl rfl rfl ?_
    conv => whnf
    refine splF (by simp; omega) ?_
    conv => whnf
    (repeat (refine ⟨by kernel_rfl, ?_⟩; (conv => whnf)))
    refine ⟨(by (try simp only [true_and, and_true, Nat.sub_zero, Nat.zero_add, Int.toNat_natCast]) <;> omega), ?_⟩
    exact .refl _
def smallB (p : Pr) : Bool := decide (p.nc ≤ 12) && decide (p.nr ≤ 12) && allB (fun i => decide ((p.r i).k ≤ 24)) p.nr
end Go.Abs

/- A list in a variable's cells, read as data from now on. -/
set_option autoImplicit false
set_option linter.unusedVariables false
set_option linter.unusedSimpArgs false
namespace Go.Abs
open Go

/-- a reference to a block that is for reading only, as data -/
def ThawTo (H : Hp) (x y : AV) : Prop := y = x ∨ ∃ d g sz i len cap z sz' k at', x = .lsl d g sz i len cap ∧ H d = (g, .fz sz' k at') ∧ (∃ δ c, snapA H x = some (.f z, δ, c) ∧ c) ∧ y = .f z
theorem thaw_weak {n : Nat} {fr : Fr} {hp : Hl} (b gb : Nat) (cells cells' : List AV) (hb : lookH hp b = (gb, .vr cells)) (hc : All2 (ThawTo (lookH hp)) cells cells') :
    WeakL n fr hp fr ((b, gb, .vr cells') :: hp) := by
  intro a0 S0 pass w0 S m a w g
  obtain ⟨H, hHd⟩ : ∃ H, lookH hp = H := ⟨_, rfl⟩
  rw [hHd] at g hb hc
  obtain ⟨H', hH'⟩ : ∃ H', lookH ((b, gb, .vr cells') :: hp) = H' := ⟨_, rfl⟩
  rw [hH']
  have hH : ∀ k, k ≠ b → H' k = H k := by
    intro k hk
    rw [← hH', lookH_cons, hHd]; simp only [updH]; rw [if_neg hk]
  have hHb : H' b = (gb, .vr cells') := by rw [← hH', lookH_cons]; simp [updH]
  have h1 : ∀ k, (H' k).1 = (H k).1 ∧ (H' k).2.live = (H k).2.live ∧ (H' k).2.own = (H k).2.own := by
    intro k
    by_cases hk2 : k = b
    · subst hk2; rw [hHb, hb]; exact ⟨rfl, rfl, rfl⟩
    · rw [hH k hk2]; exact ⟨rfl, rfl, rfl⟩
  have hG : (fun d => (H' d).1) = fun d => (H d).1 := funext fun k => (h1 k).1
  refine ⟨S, m, { size := g.size, defers := g.defers, fr := fun u => by rw [hG]; exact g.fr u, hp := fun k hl => ?_, own := fun k ho h0 => ?_, frz := fun k sz' k' at' hk h0 => ?_, inj := fun k k' ho ho' h0 h0' he => ?_, sin := g.sin, s0 := g.s0, s1 := g.s1, eff := g.eff, anch := fun k h2 hl => ?_, nle := g.nle }⟩
  · rw [hG]
    rw [(h1 k).2.1] at hl
    obtain ⟨cs, q1, q2, q3⟩ := g.hp k hl
    refine ⟨cs, by rw [(h1 k).1]; exact q1, ?_, by rw [(h1 k).1]; exact q3⟩
    by_cases hk2 : k = b
    · subst hk2
      rw [hb] at q2
      rw [hHb]
      refine ⟨?_, q2.2⟩
      have key : ∀ {l l' : List AV} {vs : List Value}, All2 (ThawTo H) l l' → All2 (RelA S m (fun d => (H d).1) w) l vs → All2 (RelA S m (fun d => (H d).1) w) l' vs := by
        intro l
        induction l with
        | nil => intro l' vs h1 h2; cases l' with | nil => exact h2 | cons _ _ => exact h1.elim
        | cons x l ih =>
          intro l' vs h1 h2
          cases l' with
          | nil => exact h1.elim
          | cons y l' =>
          cases vs with
          | nil => exact h2.elim
          | cons v vs =>
          refine ⟨?_, ih h1.2 h2.2⟩
          rcases h1.1 with e | ⟨d, g0, sz, i, len, cap, z, sz', kk, at', e1, e2, ⟨δ, c, e3, e4⟩, e5⟩
          · rw [e]; exact h2.1
          · rw [e5]
            suffices hq : ∀ q, lentS m S δ q → S q by
              have h3 := snap_rel g.facts h2.1 e3 e4 (S' := S) hq
              cases h3 with | f h3 => exact .f h3
            intro q hq
            rcases hq with hq | ⟨d', g', b', hmem, h0, rfl⟩
            · exact hq
            · obtain ⟨f1, _⟩ := snapA_frozen H _ e3 _ hmem
              simp only at f1
              have hdd : d' = d := by
                rw [e1] at e3
                simp only [snapA, e2] at e3
                have hbq : Nat.beq g0 g0 = true := Nat.beq_refl g0
                simp only [hbq, Bool.true_and] at e3
                cases hb1 : Nat.blt 0 sz with
                | false => rw [hb1] at e3; cases e3
                | true =>
                  simp only [hb1, cond_true] at e3
                  cases hv : Blk.view (.fz sz' kk at') sz i with
                  | none => simp [hv] at e3
                  | some cv =>
                    obtain ⟨c1, at1⟩ := cv
                    simp only [hv, Option.some.injEq, Prod.mk.injEq] at e3
                    obtain ⟨_, rfl, _⟩ := e3
                    simp only [List.mem_singleton, Prod.mk.injEq] at hmem
                    exact hmem.1
              subst hdd
              have h3 := g.frz d' sz' kk at' (by rw [e2])
              rw [f1]
              rw [f1] at h0
              exact h3 h0
      exact key hc q2.1
    · rw [hH k hk2]; exact q2
  · rw [(h1 k).1] at h0 ⊢
    rw [(h1 k).2.2] at ho
    exact g.own k ho h0
  · rw [(h1 k).1] at h0 ⊢
    by_cases hkb : k = b
    · subst hkb; rw [hHb] at hk; cases hk
    · rw [hH k hkb] at hk
      exact g.frz k _ _ _ hk h0
  · rw [(h1 k).1] at h0 he
    rw [(h1 k').1] at h0' he
    rw [(h1 k).2.2] at ho
    rw [(h1 k').2.2] at ho'
    exact g.inj k k' ho ho' h0 h0' he
  · rw [(h1 k).1]
    rw [(h1 k).2.1] at hl
    exact g.anch k h2 hl
end Go.Abs

/- A function's code in parts, with a change of the known between them. -/
set_option autoImplicit false
set_option linter.unusedVariables false
namespace Go.Abs
open Go

/-- the code runs, and ends so -/
def Ex (P : Program) (T : Tab) (n : Nat) (c : Code) (fr : Fr) (hp : Hl) (Q : Exit → Fr → Hl → Prop) : Prop :=
  ∃ e fr' hp', AExec P T n c (lookD fr) (lookH hp) e (lookD fr') (lookH hp') ∧ Q e fr' hp'
section
variable {P : Program} {T : Tab} {n : Nat} {fr fr2 : Fr} {hp hp2 : Hl} {Q : Exit → Fr → Hl → Prop}
theorem Ex.seq {keep : List Nat} {a b : Code} (h : wpC P T n keep a fr hp fun e fr hp => e = .normal ∧ Ex P T n b fr hp Q) : Ex P T n (.seq a b) fr hp Q := by
  obtain ⟨e, f1, h1, x1, rfl, e2, f2, h2, x2, q⟩ := wpC_sound h
  exact ⟨e2, f2, h2, .seq x1 x2, q⟩
theorem Ex.weak {c : Code} (hw : WeakL n fr hp fr2 hp2) (h : Ex P T n c fr2 hp2 Q) : Ex P T n c fr hp Q := by
  obtain ⟨e, f1, h1, x1, q⟩ := h
  exact ⟨e, f1, h1, .weak hw x1, q⟩
theorem Ex.last {keep : List Nat} {c : Code} (h : wpC P T n keep c fr hp Q) : Ex P T n c fr hp Q := wpC_sound h
end
/-- THE RULE FOR A FUNCTION, by parts -/
theorem acall_ruleE {P : Program} {T : Tab} (E : Env P T) {f : FuncId} {fn : Func} {c : Code} {args : List AV} {r : AV} (hf : P.funcs[f]? = some fn) (hb : fn.body = some c) (hnm : (fn.name == "runtime.NumGoroutine") = false)
    (hargs : noLocs args = true) (hle : (Nat.ble args.length fn.ntmps && Nat.ble fn.ntmps 10000) = true)
    (h : Ex P T fn.ntmps c (initFr 0 args) [] fun e fr hp => retK T fn.results.toList e fr hp fun r' => AVle r' r) : ACall P f args r := by
  simp only [Bool.and_eq_true] at hle
  obtain ⟨e, fr', hp', h1, h2⟩ := h
  have hret : (e = .normal ∨ e = .ret) ∧ ∃ l ls δ c, resA T (lookD fr') (lookH hp') fn.results.toList = some l ∧ snapL (lookH hp') l = some (ls, δ, c) ∧ c ∧ AVle (packA ls) r := by
    unfold retK at h2
    split at h2
    · refine ⟨.inl rfl, ?_⟩
      split at h2
      · rename_i l hl
        split at h2
        · rename_i ls δ c hs; rw [forceA_eq] at h2; exact ⟨l, ls, δ, c, hl, hs, h2⟩
        · exact h2.elim
      · exact h2.elim
    · refine ⟨.inr rfl, ?_⟩
      split at h2
      · rename_i l hl
        split at h2
        · rename_i ls δ c hs; rw [forceA_eq] at h2; exact ⟨l, ls, δ, c, hl, hs, h2⟩
        · exact h2.elim
      · exact h2.elim
    · exact h2.elim
  obtain ⟨he, l, ls, δ, cc, hl, hs, hcc, hle2⟩ := hret
  have h0 : lookH ([] : Hl) = fun _ => (0, .dead) := rfl
  rw [h0] at h1
  exact acall_of_exec E.tab E.mix hf hb hnm hargs (fun t => by rw [initFr_get]; simp) rfl (Nat.le_of_ble_eq_true hle.1) (Nat.le_of_ble_eq_true hle.2) h1 he hl hs hcc rfl hle2
end Go.Abs

/- Checkers of certificates. -/
set_option autoImplicit false
set_option maxHeartbeats 4000000
set_option maxRecDepth 10000
set_option linter.unusedVariables false
set_option linter.unusedSimpArgs false
namespace Go.Abs
open Go Go.Proofs

def Pr.opt (p : Pr) (x : Nat → RR) (n : Nat) (y : Nat → RR) (m : Nat) : Bool := p.feas x n && p.bndOk y m && decide (p.obj x = p.bnd y)
theorem cOptimal_ok {p : Pr} (hp : p.H) {x y : Nat → RR} {n m : Nat} (hx : XH x n) (hy : XH y m) : ACall Tryz.prog 11 [p.a, rats x n, rats y m] (.f (.bool (p.opt x n y m))) := by
  have f1 := lpFeasible_ok hp hx
  have o1 := lpObjective_ok hp hx
  have b1 := lpBound_ok hp hy
  unfold bndRes at b1
  unfold Pr.opt
  cases hf : p.feas x n with
  | false =>
    rw [hf] at f1
    refine acall_rule env [0, 1, 2, 3, 6, 7, 9, 10, 14] Tryz.func11 rfl rfl rfl rfl ?_
    conv => whnf
    first | refine callF f1 ⟨.refl _, .refl _, trivial⟩ (by trivial) rfl ?_ | ((repeat (refine ⟨by kernel_rfl, ?_⟩; (conv => whnf))); refine callF f1 ⟨.refl _, .refl _, trivial⟩ (by trivial) rfl ?_)
    conv => whnf
    (repeat (refine ⟨by kernel_rfl, ?_⟩; (conv => whnf)))
    refine ⟨(by (try simp only [true_and, and_true, Nat.sub_zero, Nat.zero_add, Int.toNat_natCast]) <;> omega), ?_⟩
    exact .refl _
  | true =>
    rw [hf] at f1
    obtain ⟨he, hn, _⟩ := feas_facts hf
    rw [objRes, if_neg (fun h => h (errS_zero.2 ⟨he, hn⟩))] at o1
    cases hb : p.bndOk y m with
    | false =>
      rw [hb, if_neg (by simp)] at b1
      refine acall_rule env [0, 1, 2, 3, 6, 7, 9, 10, 14] Tryz.func11 rfl rfl rfl rfl ?_
      conv => whnf
      first | refine callF f1 ⟨.refl _, .refl _, trivial⟩ (by trivial) rfl ?_ | ((repeat (refine ⟨by kernel_rfl, ?_⟩; (conv => whnf))); refine callF f1 ⟨.refl _, .refl _, trivial⟩ (by trivial) rfl ?_)
      conv => whnf
      first | refine callF o1 ⟨.refl _, .refl _, trivial⟩ (by trivial) rfl ?_ | ((repeat (refine ⟨by kernel_rfl, ?_⟩; (conv => whnf))); refine callF o1 ⟨.refl _, .refl _, trivial⟩ (by trivial) rfl ?_)
      conv => whnf
      first | refine callF b1 ⟨.refl _, .refl _, trivial⟩ (by trivial) rfl ?_ | ((repeat (refine ⟨by kernel_rfl, ?_⟩; (conv => whnf))); refine callF b1 ⟨.refl _, .refl _, trivial⟩ (by trivial) rfl ?_)
      conv => whnf
      (repeat (refine ⟨by kernel_rfl, ?_⟩; (conv => whnf)))
      refine ⟨(by (try simp only [true_and, and_true, Nat.sub_zero, Nat.zero_add, Int.toNat_natCast]) <;> omega), ?_⟩
      exact .refl _
    | true =>
      rw [hb, if_pos rfl] at b1
      have hbz := bnd_sz hp hy hb
      have hoz := obj_sz hp hx he hn
      have c1 := qCompare_ok (isR_rat _ hoz) (isR_rat _ hbz) (by omega)
      have hc : decide (rcmp (p.obj x) (p.bnd y) = 0) = decide (p.obj x = p.bnd y) := decide_eq_decide.2 rcmp_zero
      generalize rcmp (p.obj x) (p.bnd y) = C at *
      generalize p.obj x = q at *
      generalize p.bnd y = r at *
      refine acall_rule env [0, 1, 2, 3, 6, 7, 9, 10, 14] Tryz.func11 rfl rfl rfl rfl ?_
      conv => whnf
      first | refine callF f1 ⟨.refl _, .refl _, trivial⟩ (by trivial) rfl ?_ | ((repeat (refine ⟨by kernel_rfl, ?_⟩; (conv => whnf))); refine callF f1 ⟨.refl _, .refl _, trivial⟩ (by trivial) rfl ?_)
      conv => whnf
      first | refine callF o1 ⟨.refl _, .refl _, trivial⟩ (by trivial) rfl ?_ | ((repeat (refine ⟨by kernel_rfl, ?_⟩; (conv => whnf))); refine callF o1 ⟨.refl _, .refl _, trivial⟩ (by trivial) rfl ?_)
      conv => whnf
      first | refine callF b1 ⟨.refl _, .refl _, trivial⟩ (by trivial) rfl ?_ | ((repeat (refine ⟨by kernel_rfl, ?_⟩; (conv => whnf))); refine callF b1 ⟨.refl _, .refl _, trivial⟩ (by trivial) rfl ?_)
      conv => whnf
      first | refine callF c1 ⟨.refl _, .refl _, trivial⟩ (by trivial) rfl ?_ | ((repeat (refine ⟨by kernel_rfl, ?_⟩; (conv => whnf))); refine callF c1 ⟨.refl _, .refl _, trivial⟩ (by trivial) rfl ?_)
      conv => whnf
      refine ⟨(by (try simp only [true_and, and_true, Nat.sub_zero, Nat.zero_add, Int.toNat_natCast]) <;> omega), ?_⟩
      exact .bool_of (by rw [hc]; rfl)
theorem cAtLeast_ok {p : Pr} (hp : p.H) {y : Nat → RR} {m : Nat} (hy : XH y m) {v : Rat} (hv : rsz v ≤ 3298534883328) : ACall Tryz.prog 16 [p.a, rats y m, rat v] (.f (.bool (p.bndOk y m && decide (v ≤ p.bnd y)))) := by
  have b1 := lpBound_ok hp hy
  unfold bndRes at b1
  cases hb : p.bndOk y m with
  | false =>
    rw [hb, if_neg (by simp)] at b1
    refine acall_rule env [0, 1, 2, 3, 5, 6, 7, 8] Tryz.func16 rfl rfl rfl rfl ?_
    conv => whnf
    first | refine callF b1 ⟨.refl _, .refl _, trivial⟩ (by trivial) rfl ?_ | ((repeat (refine ⟨by kernel_rfl, ?_⟩; (conv => whnf))); refine callF b1 ⟨.refl _, .refl _, trivial⟩ (by trivial) rfl ?_)
    conv => whnf
    (repeat (refine ⟨by kernel_rfl, ?_⟩; (conv => whnf)))
    refine ⟨(by (try simp only [true_and, and_true, Nat.sub_zero, Nat.zero_add, Int.toNat_natCast]) <;> omega), ?_⟩
    exact .refl _
  | true =>
    rw [hb, if_pos rfl] at b1
    have hbz := bnd_sz hp hy hb
    have c1 := qCompare_ok (isR_rat _ hbz) (isR_rat _ hv) (by omega)
    have hc : decide (rcmp (p.bnd y) v ≥ 0) = decide (v ≤ p.bnd y) := decide_eq_decide.2 (by rw [← rcmp_le, rcmp_neg]; omega)
    generalize rcmp (p.bnd y) v = C at *
    generalize p.bnd y = r at *
    refine acall_rule env [0, 1, 2, 3, 5, 6, 7, 8] Tryz.func16 rfl rfl rfl rfl ?_
    conv => whnf
    first | refine callF b1 ⟨.refl _, .refl _, trivial⟩ (by trivial) rfl ?_ | ((repeat (refine ⟨by kernel_rfl, ?_⟩; (conv => whnf))); refine callF b1 ⟨.refl _, .refl _, trivial⟩ (by trivial) rfl ?_)
    conv => whnf
    first | refine callF c1 ⟨.refl _, .refl _, trivial⟩ (by trivial) rfl ?_ | ((repeat (refine ⟨by kernel_rfl, ?_⟩; (conv => whnf))); refine callF c1 ⟨.refl _, .refl _, trivial⟩ (by trivial) rfl ?_)
    conv => whnf
    refine ⟨(by (try simp only [true_and, and_true, Nat.sub_zero, Nat.zero_add, Int.toNat_natCast]) <;> omega), ?_⟩
    exact .bool_of (by rw [hc]; rfl)
/-- the program with all costs zero -/
def Pr.free (p : Pr) : Pr := ⟨fun j => ⟨RR.nil, (p.c j).hl, (p.c j).lo, (p.c j).hu, (p.c j).up⟩, p.nc, p.r, p.nr⟩
theorem RR.nil_sz : RR.nil.sz = 1 := rfl
theorem Pr.free_H {p : Pr} (hp : p.H) : p.free.H := by
  refine ⟨⟨fun j hj => ⟨RR.nil_ok, (hp.ok.c j hj).lo, (hp.ok.c j hj).up⟩, hp.ok.r⟩, ?_, hp.k, hp.c, hp.r⟩
  have h1 := hp.s
  unfold Pr.sz at h1 ⊢
  have h2 : nsum (fun j => (p.free.c j).sz) p.free.nc ≤ nsum (fun j => (p.c j).sz) p.nc := nsum_mono fun i hi => by
    show RR.nil.sz + (p.c i).lo.sz + (p.c i).up.sz ≤ (p.c i).w.sz + (p.c i).lo.sz + (p.c i).up.sz
    have := RR.sz_pos (p.c i).w
    rw [RR.nil_sz]; omega
  have h3 : nsum (fun i => (p.free.r i).sz) p.free.nr = nsum (fun i => (p.r i).sz) p.nr := rfl
  omega
theorem Pr.free_feas (p : Pr) (x : Nat → RR) (n : Nat) : p.free.feas x n = p.feas x n := rfl
theorem Pr.free_obj (p : Pr) (x : Nat → RR) : p.free.obj x = 0 := by
  unfold Pr.obj
  exact qsum_zero fun j _ => by show RR.nil.v * (x j).v = 0; rw [RR.nil_v, Rat.zero_mul]
theorem more_coL {f : Nat → Co} {i j : Nat} (hj : j < i + 1) {l : List FV} (hl : All2 FVle (List.take 11 (List.drop ((0 + 0) * 11) l)) (f i).c) :
    All2 FVle (if j < i then (f (0 + j)).c else List.take 11 (List.drop ((0 + (j - i)) * 11) l)) (f j).c := by
  rw [Nat.zero_add]
  by_cases h2 : j < i
  · rw [if_pos h2]; exact .fle_co _
  · obtain rfl : j = i := by omega
    rw [if_neg h2, Nat.sub_self]; exact hl
theorem cFree_ok {p : Pr} (hp : p.H) : ACall Tryz.prog 72 [p.a] p.free.a := by
  have hpc := hp.c
  refine acall_rule env [0, 1, 2, 3, 5, 10, 11, 12, 13] Tryz.func72 rfl rfl rfl rfl ?_
  conv => whnf
  refine .weak (nil_weakB 3 1 22 11 _ [.lsl 22 1 11 0 0 none, .f (.sl 5 (fun i => (p.r i).c) p.nr none)] (by decide) (by decide) rfl rfl ⟨.inr ⟨⟨_, _, rfl⟩, rfl⟩, .inl rfl, trivial⟩) ?_
  refine loop_mod [2, 3, 10, 11, 12] [2, 3, 22] [2, 3] [2, 3, 22]
    (fun μ fr hp_ => ∃ j : Nat, j ≤ p.nc ∧ fr = [bpk 2 2, bpk 3 2, (10, .f (.sl 11 (fun j => (p.c j).c) p.nc none)), (11, .f (.int .i64 p.nc)), (12, .f (.int .i64 j))] ∧
      hp_ = [bxk 2 [nilCo, nilRo], bxk 3 [.lsl 22 1 11 0 j none, .f (.sl 5 (fun i => (p.r i).c) p.nr none)], (22, 1, .fa 11 j (fun q => (p.free.c q).c))] ∧ μ = p.nc - j)
    (fun e fr hp_ => e = .exit 0 ∧ fr = [bpk 2 2, bpk 3 2] ∧
      hp_ = [bxk 2 [nilCo, nilRo], bxk 3 [.lsl 22 1 11 0 p.nc none, .f (.sl 5 (fun i => (p.r i).c) p.nr none)], (22, 1, .fa 11 p.nc (fun q => (p.free.c q).c))])
    ⟨_, _, _, _, rfl, ?_, 0, Nat.zero_le _, rfl, rfl, rfl⟩ ?_ ?_
  · exact ⟨⟨rfl, rfl⟩, .refl _, ⟨rfl, rfl⟩, .refl _, ⟨rfl, rfl⟩, .fa fun j hj => absurd hj (Nat.not_lt_zero _), trivial⟩
  · rintro _ _ _ ⟨rfl, rfl, rfl⟩
    conv => whnf
    refine ⟨(by (try simp only [true_and, and_true, Nat.sub_zero, Nat.zero_add, Int.toNat_natCast]) <;> omega), ?_⟩
    exact .agg ⟨.f (.sl (fun q hq => by simp only [Nat.zero_add]; exact .fle_co _) (.inl rfl)), .refl _, trivial⟩
  rintro μ _ _ ⟨j, hj, rfl, rfl, rfl⟩
  by_cases hjk : j < p.nc
  · conv => whnf
    refine splT (by simp only [decide_eq_true_eq, decide_eq_false_iff_not, Bool.not_eq_true', Bool.not_eq_false', gt_iff_lt, ge_iff_le] <;> omega) ?_
    conv => whnf
    refine ⟨(by (try simp only [true_and, and_true, Nat.sub_zero, Nat.zero_add, Int.toNat_natCast]) <;> omega), ?_⟩
    conv => whnf
    refine ⟨⟨(show 1 ≤ 11 / 11 - 0 by decide), by omega, by omega, (show (j + 1) * 184 ≤ 140737488355328 by omega)⟩, ?_⟩
    conv => whnf
    refine fit64 (by omega) ?_
    conv => whnf
    refine ⟨_, ?_, _, _, [bxk 2 [nilCo, nilRo], bxk 3 [.lsl 22 1 11 0 (j + 1) none, .f (.sl 5 (fun i => (p.r i).c) p.nr none)], (22, 1, .fa 11 (j + 1) (fun q => (p.free.c q).c))], rfl,
      ⟨⟨rfl, rfl⟩, .refl _, ⟨rfl, rfl⟩, .refl _, ⟨rfl, rfl⟩, .fa fun q hq => more_coL (f := fun q => p.free.c q) hq ⟨.refl _, .nil, .nil, .refl _, .refl _, .refl _, .refl _, .refl _, .refl _, .refl _, .refl _, trivial⟩, trivial⟩, j + 1, hjk, rfl, rfl, rfl⟩
    omega
  · obtain rfl : j = p.nc := by omega
    conv => whnf
    refine splF (by simp only [decide_eq_true_eq, decide_eq_false_iff_not, Bool.not_eq_true', Bool.not_eq_false', gt_iff_lt, ge_iff_le] <;> omega) ?_
    conv => whnf
    exact ⟨_, _, _, rfl, .refl _, rfl, rfl, rfl⟩
def Pr.inf (p : Pr) (y : Nat → RR) (m : Nat) : Bool := p.free.bndOk y m && decide (0 < p.free.bnd y)
theorem cInfeasible_ok {p : Pr} (hp : p.H) {y : Nat → RR} {m : Nat} (hy : XH y m) : ACall Tryz.prog 33 [p.a, rats y m] (.f (.bool (p.inf y m))) := by
  have f1 := cFree_ok hp
  have b1 := lpBound_ok (Pr.free_H hp) hy
  unfold bndRes at b1
  unfold Pr.inf
  cases hb : p.free.bndOk y m with
  | false =>
    rw [hb, if_neg (by simp)] at b1
    refine acall_rule env [0, 1, 2, 4, 5, 6] Tryz.func33 rfl rfl rfl rfl ?_
    conv => whnf
    first | refine callF f1 ⟨.refl _, trivial⟩ (by trivial) rfl ?_ | ((repeat (refine ⟨by kernel_rfl, ?_⟩; (conv => whnf))); refine callF f1 ⟨.refl _, trivial⟩ (by trivial) rfl ?_)
    conv => whnf
    first | refine callF b1 ⟨.refl _, .refl _, trivial⟩ (by trivial) rfl ?_ | ((repeat (refine ⟨by kernel_rfl, ?_⟩; (conv => whnf))); refine callF b1 ⟨.refl _, .refl _, trivial⟩ (by trivial) rfl ?_)
    conv => whnf
    (repeat (refine ⟨by kernel_rfl, ?_⟩; (conv => whnf)))
    refine ⟨(by (try simp only [true_and, and_true, Nat.sub_zero, Nat.zero_add, Int.toNat_natCast]) <;> omega), ?_⟩
    exact .refl _
  | true =>
    rw [hb, if_pos rfl] at b1
    have hbz := bnd_sz (Pr.free_H hp) hy hb
    have c1 := qSign_ok (isR_rat _ hbz) (by omega)
    have hc : decide (rcmp (p.free.bnd y) 0 > 0) = decide (0 < p.free.bnd y) := decide_eq_decide.2 rcmp_pos
    generalize rcmp (p.free.bnd y) 0 = C at *
    generalize p.free.bnd y = r at *
    generalize p.free = pf at *
    refine acall_rule env [0, 1, 2, 4, 5, 6] Tryz.func33 rfl rfl rfl rfl ?_
    conv => whnf
    first | refine callF f1 ⟨.refl _, trivial⟩ (by trivial) rfl ?_ | ((repeat (refine ⟨by kernel_rfl, ?_⟩; (conv => whnf))); refine callF f1 ⟨.refl _, trivial⟩ (by trivial) rfl ?_)
    conv => whnf
    first | refine callF b1 ⟨.refl _, .refl _, trivial⟩ (by trivial) rfl ?_ | ((repeat (refine ⟨by kernel_rfl, ?_⟩; (conv => whnf))); refine callF b1 ⟨.refl _, .refl _, trivial⟩ (by trivial) rfl ?_)
    conv => whnf
    first | refine callF c1 ⟨.refl _, trivial⟩ (by trivial) rfl ?_ | ((repeat (refine ⟨by kernel_rfl, ?_⟩; (conv => whnf))); refine callF c1 ⟨.refl _, trivial⟩ (by trivial) rfl ?_)
    conv => whnf
    refine ⟨(by (try simp only [true_and, and_true, Nat.sub_zero, Nat.zero_add, Int.toNat_natCast]) <;> omega), ?_⟩
    exact .bool_of (by rw [hc]; rfl)
theorem cUnbounded_no {p : Pr} (hp : p.H) {x y : Nat → RR} {n m : Nat} (hx : XH x n) (hf : p.feas x n = false) : ACall Tryz.prog 34 [p.a, rats x n, rats y m] (.f (.bool false)) := by
  have f1 := lpFeasible_ok hp hx
  rw [hf] at f1
  refine acall_rule env [0, 1, 2, 3, 6, 7, 8, 9, 10, 12, 13, 14, 15, 28, 30, 31, 32, 33, 55, 64, 65, 66, 67, 91] Tryz.func34 rfl rfl rfl rfl ?_
  conv => whnf
  first | refine callF f1 ⟨.refl _, .refl _, trivial⟩ (by trivial) rfl ?_ | ((repeat (refine ⟨by kernel_rfl, ?_⟩; (conv => whnf))); refine callF f1 ⟨.refl _, .refl _, trivial⟩ (by trivial) rfl ?_)
  conv => whnf
  (repeat (refine ⟨by kernel_rfl, ?_⟩; (conv => whnf)))
  refine ⟨(by (try simp only [true_and, and_true, Nat.sub_zero, Nat.zero_add, Int.toNat_natCast]) <;> omega), ?_⟩
  exact .refl _
theorem lawSmall12_ok {p : Pr} (hp : p.H) : ACall Tryz.prog 10 [p.a] (.f (.bool (smallB p))) := by
  have h1 := hp.c
  have h2 := hp.r
  have h3 := hp.k
  unfold smallB
  by_cases a1 : p.nc ≤ 12
  · by_cases a2 : p.nr ≤ 12
    · rw [decide_eq_true a1, decide_eq_true a2, Bool.true_and, Bool.true_and]
      obtain ⟨B, hB⟩ : ∃ B, allB (fun i => decide ((p.r i).k ≤ 24)) p.nr = B := ⟨_, rfl⟩
      rw [hB]
      refine acall_rule env [0, 1, 2, 3, 13, 18, 28] Tryz.func10 rfl rfl rfl rfl ?_
      conv => whnf
      refine splF (by simp; omega) ?_
      conv => whnf
      refine splF (by simp; omega) ?_
      conv => whnf
      refine loop_mod [1, 2, 3] [1] [2] []
        (fun μ fr hp_ => ∃ i : Nat, i ≤ p.nr ∧ allB (fun i => decide ((p.r i).k ≤ 24)) i = true ∧ fr = [bpk 1 2, (2, .f (.bool false)), (3, .f (.int .i64 i))] ∧ hp_ = [bxk 1 [.f (.sl 11 (fun j => (p.c j).c) p.nc none), .f (.sl 5 (fun i => (p.r i).c) p.nr none)]] ∧ μ = p.nr - i)
        (fun x fr hp_ => (x = .exit 0 ∧ B = true ∧ fr = [(2, .f (.bool false))] ∧ hp_ = []) ∨ (x = .ret ∧ B = false ∧ fr = [(2, .f (.bool false))] ∧ hp_ = []))
        ⟨_, _, _, _, rfl, .refl _, 0, Nat.zero_le _, rfl, rfl, rfl, rfl⟩ ?_ ?_
      · rintro _ _ _ (⟨rfl, rfl, rfl, rfl⟩ | ⟨rfl, rfl, rfl, rfl⟩)
        · conv => whnf
          (repeat (refine ⟨by kernel_rfl, ?_⟩; (conv => whnf)))
          refine ⟨(by (try simp only [true_and, and_true, Nat.sub_zero, Nat.zero_add, Int.toNat_natCast]) <;> omega), ?_⟩
          exact .refl _
        · conv => whnf
          (repeat (refine ⟨by kernel_rfl, ?_⟩; (conv => whnf)))
          refine ⟨(by (try simp only [true_and, and_true, Nat.sub_zero, Nat.zero_add, Int.toNat_natCast]) <;> omega), ?_⟩
          exact .refl _
      rintro μ _ _ ⟨i, hi, hall, rfl, rfl, rfl⟩
      by_cases hik : i < p.nr
      · have hf : decide ((p.r i).k ≤ 24) = false → B = false := fun h => hB.symm.trans (allB_false hik h)
        have hb : allB (fun i => decide ((p.r i).k ≤ 24)) (i + 1) = decide ((p.r i).k ≤ 24) := by rw [allB, hall, Bool.true_and]
        have hki := h3 i hik
        by_cases hv : (p.r i).k ≤ 24
        · conv => whnf
          refine splT (by simp only [decide_eq_true_eq, decide_eq_false_iff_not, Bool.not_eq_true', Bool.not_eq_false', gt_iff_lt, ge_iff_le] <;> omega) ?_
          conv => whnf
          refine ⟨(by (try simp only [true_and, and_true, Nat.sub_zero, Nat.zero_add, Int.toNat_natCast]) <;> omega), ?_⟩
          conv => whnf
          refine splF (show decide (((p.r i).k : Int) > 24) = false from decide_eq_false (by omega)) ?_
          conv => whnf
          refine fit64 (by omega) ?_
          conv => whnf
          refine ⟨_, ?_, _, _, _, rfl, .refl _, i + 1, hik, by rw [hb, decide_eq_true hv], rfl, rfl, rfl⟩
          omega
        · conv => whnf
          refine splT (by simp only [decide_eq_true_eq, decide_eq_false_iff_not, Bool.not_eq_true', Bool.not_eq_false', gt_iff_lt, ge_iff_le] <;> omega) ?_
          conv => whnf
          refine ⟨(by (try simp only [true_and, and_true, Nat.sub_zero, Nat.zero_add, Int.toNat_natCast]) <;> omega), ?_⟩
          conv => whnf
          refine splT (show decide (((p.r i).k : Int) > 24) = true from decide_eq_true (by omega)) ?_
          conv => whnf
          exact ⟨_, _, _, rfl, .refl _, .inr ⟨rfl, hf (decide_eq_false hv), rfl, rfl⟩⟩
      · obtain rfl : i = p.nr := by omega
        conv => whnf
        refine splF (by simp only [decide_eq_true_eq, decide_eq_false_iff_not, Bool.not_eq_true', Bool.not_eq_false', gt_iff_lt, ge_iff_le] <;> omega) ?_
        conv => whnf
        exact ⟨_, _, _, rfl, .refl _, .inl ⟨rfl, by rw [← hB, hall], rfl, rfl⟩⟩
    · rw [decide_eq_false a2, Bool.and_false, Bool.false_and]
      refine acall_rule env [0, 1, 2, 3, 13, 18, 28] Tryz.func10 rfl rfl rfl rfl ?_
      conv => whnf
      refine splF (by simp; omega) ?_
      conv => whnf
      refine splT (by simp; omega) ?_
      conv => whnf
      (repeat (refine ⟨by kernel_rfl, ?_⟩; (conv => whnf)))
      refine ⟨(by (try simp only [true_and, and_true, Nat.sub_zero, Nat.zero_add, Int.toNat_natCast]) <;> omega), ?_⟩
      exact .refl _
  · rw [decide_eq_false a1, Bool.false_and, Bool.false_and]
    refine acall_rule env [0, 1, 2, 3, 13, 18, 28] Tryz.func10 rfl rfl rfl rfl ?_
    conv => whnf
    refine splT (by simp; omega) ?_
    conv => whnf
    (repeat (refine ⟨by kernel_rfl, ?_⟩; (conv => whnf)))
    refine ⟨(by (try simp only [true_and, and_true, Nat.sub_zero, Nat.zero_add, Int.toNat_natCast]) <;> omega), ?_⟩
    exact .refl _
/-- what Below answers for 2001/1000 -/
theorem nb_2001 : (nbRes (Rat.divInt 2001 1000) 1).1 = 2 := by
  unfold nbRes
  rw [if_neg (by decide +kernel)]
  have e0 : nb0 (Rat.divInt 2001 1000) = ⟨2, 1, 3, 1⟩ := by
    unfold nb0
    have : (Rat.divInt 2001 1000).floor = 2 := by decide +kernel
    rw [this]; rfl
  have en : (Rat.divInt 2001 1000).num = 2001 := by decide +kernel
  have ed : ((Rat.divInt 2001 1000).den : Int) = 1000 := by decide +kernel
  rw [e0, en, ed]
  have d1 : Nb.done ⟨2, 1, 3, 1⟩ 2001 1000 1 := by
    constructor <;> decide +kernel
  rw [nbF_done d1]
  decide +kernel
def rr21 : RR := RR.of (Rat.divInt 2001 1000)
theorem rr21_sz : rr21.sz ≤ 1 := of_small (by decide +kernel)
def zIB : List AV := [.f (.bool false), .f (.sl 1 (fun _ => [.int .u32 0]) 0 (some 0))]
def intB (z : Int) : List AV := [.f (.bool (decide (z < 0))), nat z.natAbs]
theorem cGreatest_ok : ACall Tryz.prog 63 [rats (fun _ => rr21) 1] (int 1000) := by
  have i1 := iFromInt_ok 1 (by decide)
  have n1 := qNorm_ok (x := rr21.a) (RR.of_ok (Rat.divInt 2001 1000)).is (by have := rr21_sz; unfold rr21 at this; omega)
  have hv : rr21.v = Rat.divInt 2001 1000 := RR.of_v _
  rw [show (RR.of (Rat.divInt 2001 1000)).v = Rat.divInt 2001 1000 from RR.of_v _] at n1
  have hd : (Rat.divInt 2001 1000).den = 1000 := by decide +kernel
  have c1 := iCompare_ok (isI_int 1000 (Nat.le_refl _)) (isI_int 1 (Nat.le_refl _)) (by decide +kernel) (by decide +kernel)
  rw [show icmp 1000 1 = 1 by decide] at c1
  have hr : rat (Rat.divInt 2001 1000) = .agg [.f (.bool (decide ((Rat.divInt 2001 1000).num < 0))), nat (Rat.divInt 2001 1000).num.natAbs, nat 1000] := by rw [← hd]; rfl
  rw [hr] at n1
  refine acall_rule env [0, 2, 3, 5, 6, 8, 9, 10, 11, 21] Tryz.func63 rfl rfl rfl rfl ?_
  conv => whnf
  first | refine callF i1 ⟨.refl _, trivial⟩ (by trivial) rfl ?_ | ((repeat (refine ⟨by kernel_rfl, ?_⟩; (conv => whnf))); refine callF i1 ⟨.refl _, trivial⟩ (by trivial) rfl ?_)
  conv => whnf
  refine loop_mod [2, 3, 8, 9, 10] [2, 3] [2, 3] [2, 3]
    (fun μ fr hp_ => ∃ j : Nat, j ≤ 1 ∧ fr = [bpk 2 2, bpk 3 2, (8, rats (fun _ => rr21) 1), (9, .f (.int .i64 (1 : Nat))), (10, .f (.int .i64 j))] ∧
      hp_ = [bxk 2 zIB, bxk 3 (intB (if j = 0 then 1 else 1000))] ∧ μ = 1 - j)
    (fun e fr hp_ => e = .exit 0 ∧ fr = [bpk 2 2, bpk 3 2] ∧ hp_ = [bxk 2 zIB, bxk 3 (intB 1000)])
    ⟨_, _, _, _, rfl, .refl _, 0, Nat.zero_le _, rfl, rfl, rfl⟩ ?_ ?_
  · rintro _ _ _ ⟨rfl, rfl, rfl⟩
    conv => whnf
    (repeat (refine ⟨by kernel_rfl, ?_⟩; (conv => whnf)))
    refine ⟨(by (try simp only [true_and, and_true, Nat.sub_zero, Nat.zero_add, Int.toNat_natCast]) <;> omega), ?_⟩
    exact .refl _
  rintro μ _ _ ⟨j, hj, rfl, rfl, rfl⟩
  rcases Nat.lt_or_ge j 1 with h | h
  · obtain rfl : j = 0 := by omega
    conv => whnf
    refine ⟨(by (try simp only [true_and, and_true, Nat.sub_zero, Nat.zero_add, Int.toNat_natCast]) <;> omega), ?_⟩
    conv => whnf
    first | refine callF n1 ⟨.refl _, trivial⟩ (by trivial) rfl ?_ | ((repeat (refine ⟨by kernel_rfl, ?_⟩; (conv => whnf))); refine callF n1 ⟨.refl _, trivial⟩ (by trivial) rfl ?_)
    conv => whnf
    first | refine callF c1 ⟨.refl _, .refl _, trivial⟩ (by trivial) rfl ?_ | ((repeat (refine ⟨by kernel_rfl, ?_⟩; (conv => whnf))); refine callF c1 ⟨.refl _, .refl _, trivial⟩ (by trivial) rfl ?_)
    conv => whnf
    refine fit64 (by omega) ?_
    conv => whnf
    refine ⟨_, ?_, _, _, _, rfl, .refl _, 1, Nat.le_refl _, rfl, rfl, rfl⟩
    omega
  · obtain rfl : j = 1 := by omega
    conv => whnf
    exact ⟨_, _, _, rfl, .refl _, rfl, rfl, rfl⟩
theorem cCandidate_ok : ACall Tryz.prog 65 [rats (fun _ => rr21) 1, int 1] (rats (fun _ => RR.of 2) 1) := by
  have hr : (RR.of (Rat.divInt 2001 1000)).v = Rat.divInt 2001 1000 := RR.of_v _
  have s1 := qSign_ok (x := rr21.a) (RR.of_ok (Rat.divInt 2001 1000)).is (by have := rr21_sz; unfold rr21 at this; omega)
  have b1 := Below_ok (x := rr21.a) (m := int 1) (RR.of_ok (Rat.divInt 2001 1000)).is (isI_int 1 (s := (RR.of (Rat.divInt 2001 1000)).sz) (Nat.le_trans (by decide) (RR.sz_pos _))) (by have := rr21_sz; unfold rr21 at this; omega)
  rw [hr] at s1 b1
  rw [show rcmp (Rat.divInt 2001 1000) 0 = 1 by decide +kernel] at s1
  unfold belowRes at b1
  rw [if_neg (by decide), nb_2001, ← RR.of_a] at b1
  refine acall_rule env [0, 1, 3, 4, 5, 6, 7, 11, 12, 13, 14, 19, 24, 35] Tryz.func65 rfl rfl rfl rfl ?_
  conv => whnf
  refine ⟨(by (try simp only [true_and, and_true, Nat.sub_zero, Nat.zero_add, Int.toNat_natCast]) <;> omega), ?_⟩
  conv => whnf
  refine loop_mod [3, 4, 5, 11, 12, 13] [3, 10] [5] [10]
    (fun μ fr hp_ => ∃ j : Nat, j ≤ 1 ∧ fr = [bpk 3 2, (4, nilQ), (5, .lsl 10 1 3 0 1 (some 1)), (11, rats (fun _ => rr21) 1), (12, .f (.int .i64 (1 : Nat))), (13, .f (.int .i64 j))] ∧
      hp_ = [bxk 3 (intB 1), (10, 1, .fa 3 1 (fun q => (if q < j then RR.of 2 else RR.nil).c))] ∧ μ = 1 - j)
    (fun e fr hp_ => e = .exit 0 ∧ fr = [(5, .lsl 10 1 3 0 1 (some 1))] ∧ hp_ = [(10, 1, .fa 3 1 (fun q => (RR.of 2).c))])
    ⟨_, _, _, _, rfl, ?_, 0, Nat.zero_le _, rfl, rfl, rfl⟩ ?_ ?_
  · refine ⟨⟨rfl, rfl⟩, .refl _, ⟨rfl, rfl⟩, .fa fun j hj => ?_, trivial⟩
    rw [if_neg (Nat.not_lt_zero _)]; exact ⟨.refl _, .nil, .nil, trivial⟩
  · rintro _ _ _ ⟨rfl, rfl, rfl⟩
    conv => whnf
    refine ⟨(by (try simp only [true_and, and_true, Nat.sub_zero, Nat.zero_add, Int.toNat_natCast]) <;> omega), ?_⟩
    refine .f (.sl (fun j hj => ?_) (.inl rfl))
    exact .fle_rr _
  rintro μ _ _ ⟨j, hj, rfl, rfl, rfl⟩
  rcases Nat.lt_or_ge j 1 with h | h
  · obtain rfl : j = 0 := by omega
    conv => whnf
    refine ⟨(by (try simp only [true_and, and_true, Nat.sub_zero, Nat.zero_add, Int.toNat_natCast]) <;> omega), ?_⟩
    conv => whnf
    first | refine callF s1 ⟨.refl _, trivial⟩ (by trivial) rfl ?_ | ((repeat (refine ⟨by kernel_rfl, ?_⟩; (conv => whnf))); refine callF s1 ⟨.refl _, trivial⟩ (by trivial) rfl ?_)
    conv => whnf
    first | refine callF b1 ⟨.refl _, .refl _, trivial⟩ (by trivial) rfl ?_ | ((repeat (refine ⟨by kernel_rfl, ?_⟩; (conv => whnf))); refine callF b1 ⟨.refl _, .refl _, trivial⟩ (by trivial) rfl ?_)
    conv => whnf
    refine ⟨(by (try simp only [true_and, and_true, Nat.sub_zero, Nat.zero_add, Int.toNat_natCast]) <;> omega), ?_⟩
    conv => whnf
    refine ⟨(by (try simp only [true_and, and_true, Nat.sub_zero, Nat.zero_add, Int.toNat_natCast]) <;> omega), ?_⟩
    conv => whnf
    refine fit64 (by omega) ?_
    conv => whnf
    refine ⟨_, ?_, _, _, _, rfl, ?_, 1, Nat.le_refl _, rfl, rfl, rfl⟩
    · omega
    · refine ⟨⟨rfl, rfl⟩, .refl _, ⟨rfl, rfl⟩, .fa fun q hq => upd_le (i := 0) rfl (fun h => ?_) (fun h => ?_), trivial⟩
      · subst h; rw [if_pos (by decide)]; exact All2.fle_rr (RR.of 2)
      · omega
  · obtain rfl : j = 1 := by omega
    conv => whnf
    refine ⟨_, _, _, rfl, ?_, rfl, rfl, rfl⟩
    refine ⟨⟨rfl, rfl⟩, .fa fun q hq => ?_, trivial⟩
    rw [if_pos hq]; exact .fle_rr _
end Go.Abs

/- Laws of layer 12: what is certified as optimal, as infeasible. -/
set_option autoImplicit false
set_option maxHeartbeats 4000000
set_option maxRecDepth 10000
set_option linter.unusedVariables false
set_option linter.unusedSimpArgs false
namespace Go.Abs
open Go Go.Proofs

theorem q2_ones : XH (fun _ => q2) 1 := xh_of (fun j _ => RR.of_ok _) (fun j _ => by show q2.sz ≤ _; exact Nat.le_trans (of_small (by decide)) (by decide)) (by omega)
theorem cShorten_ok : ACall Tryz.prog 28 [exP.a, rats (fun _ => rr21) 1, rat ((4 : Int) : Rat), int 1] (rats (fun _ => q2) 1) := by
  have i1 := iFromInt_ok 1 (by decide)
  have g1 := cGreatest_ok
  have c1 := iCompare_ok (isI_int 1 (Nat.le_refl _)) (isI_int 1 (Nat.le_refl _)) (by decide +kernel) (by decide +kernel)
  have c2 := iCompare_ok (isI_int 1 (Nat.le_refl _)) (isI_int 1000 (Nat.le_refl _)) (by decide +kernel) (by decide +kernel)
  rw [show icmp 1 1 = 0 by decide] at c1
  rw [show icmp 1 1000 = -1 by decide] at c2
  have d1 := cCandidate_ok
  rw [show RR.of 2 = q2 from rfl] at d1
  have a1 := cAtLeast_ok ex_H q2_ones (v := ((4 : Int) : Rat)) (Nat.le_trans (rsz_small (by decide)) (by omega))
  have hb : exP.bndOk (fun _ => q2) 1 = true := ex_bndOk
  have hd : exP.bnd (fun _ => q2) = ((4 : Int) : Rat) := ex_bnd
  rw [hb, hd, decide_eq_true Rat.le_refl] at a1
  obtain ⟨V, hV⟩ : ∃ V : Rat, ((4 : Int) : Rat) = V := ⟨_, rfl⟩
  rw [hV] at a1 ⊢
  generalize exP = p at *
  refine acall_rule env [0, 1, 2, 3, 4, 6, 7, 8, 9, 10, 11, 24, 31] Tryz.func28 rfl rfl rfl rfl ?_
  conv => whnf
  first | refine callF i1 ⟨.refl _, trivial⟩ (by trivial) rfl ?_ | ((repeat (refine ⟨by kernel_rfl, ?_⟩; (conv => whnf))); refine callF i1 ⟨.refl _, trivial⟩ (by trivial) rfl ?_)
  conv => whnf
  first | refine callF g1 ⟨.refl _, trivial⟩ (by trivial) rfl ?_ | ((repeat (refine ⟨by kernel_rfl, ?_⟩; (conv => whnf))); refine callF g1 ⟨.refl _, trivial⟩ (by trivial) rfl ?_)
  conv => whnf
  refine loop_mod [1, 4, 6, 7, 8, 9, 10] [4, 6, 7, 9, 10] [8] []
    (fun μ fr hp_ => fr = [(1, rats (fun _ => rr21) 1), bpk 4 2, bp3 6, bpk 7 2, (8, nilQ), bpk 9 2, bpk 10 2] ∧
      hp_ = [bxk 4 [.f (.sl 11 (fun j => (p.c j).c) p.nc none), .f (.sl 5 (fun i => (p.r i).c) p.nr none)], bx3 6 (ratL V), bxk 7 (intB 1), bxk 9 (intB 1), bxk 10 (intB 1000)] ∧ μ = 0)
    (fun e fr hp_ => e = .ret ∧ fr = [(8, rats (fun _ => q2) 1)] ∧ hp_ = [])
    ⟨_, _, _, _, rfl, .refl _, rfl, rfl, rfl⟩ ?_ ?_
  · rintro _ _ _ ⟨rfl, rfl, rfl⟩
    conv => whnf
    (repeat (refine ⟨by kernel_rfl, ?_⟩; (conv => whnf)))
    refine ⟨(by (try simp only [true_and, and_true, Nat.sub_zero, Nat.zero_add, Int.toNat_natCast]) <;> omega), ?_⟩
    exact .refl _
  rintro μ _ _ ⟨rfl, rfl, rfl⟩
  conv => whnf
  first | refine callF c1 ⟨.refl _, .refl _, trivial⟩ (by trivial) rfl ?_ | ((repeat (refine ⟨by kernel_rfl, ?_⟩; (conv => whnf))); refine callF c1 ⟨.refl _, .refl _, trivial⟩ (by trivial) rfl ?_)
  conv => whnf
  first | refine callF c2 ⟨.refl _, .refl _, trivial⟩ (by trivial) rfl ?_ | ((repeat (refine ⟨by kernel_rfl, ?_⟩; (conv => whnf))); refine callF c2 ⟨.refl _, .refl _, trivial⟩ (by trivial) rfl ?_)
  conv => whnf
  first | refine callF d1 ⟨.refl _, .refl _, trivial⟩ (by trivial) rfl ?_ | ((repeat (refine ⟨by kernel_rfl, ?_⟩; (conv => whnf))); refine callF d1 ⟨.refl _, .refl _, trivial⟩ (by trivial) rfl ?_)
  conv => whnf
  first | refine callF a1 ⟨.refl _, .refl _, .refl _, trivial⟩ (by trivial) rfl ?_ | ((repeat (refine ⟨by kernel_rfl, ?_⟩; (conv => whnf))); refine callF a1 ⟨.refl _, .refl _, .refl _, trivial⟩ (by trivial) rfl ?_)
  conv => whnf
  exact ⟨_, _, _, rfl, .refl _, rfl, rfl, rfl⟩
theorem exP12_r : RCall Tryz.prog 45 [] [] (.agg [.lsl 2000000 1 11 0 2 (some 2), .lsl 2000001 1 5 0 1 (some 1)]) [(2000000, 1, .vr exC1), (2000001, 1, .vr exR1), (2000002, 1, .vr exE1)] := by
  have i1 := sFromInt_ok 1 (by decide)
  have i2 := sFromInt_ok 2 (by decide)
  have i3 := sFromInt_ok 3 (by decide)
  refine rcall_rule env [.agg [.lsl 2000000 1 11 0 2 (some 2), .lsl 2000001 1 5 0 1 (some 1)]] [0] Tryz.func45 rfl rfl rfl rfl ?_
  conv => whnf
  first | refine callF i1 ⟨.refl _, trivial⟩ (by trivial) rfl ?_ | ((repeat (refine ⟨by kernel_rfl, ?_⟩; (conv => whnf))); refine callF i1 ⟨.refl _, trivial⟩ (by trivial) rfl ?_)
  conv => whnf
  first | refine callF i2 ⟨.refl _, trivial⟩ (by trivial) rfl ?_ | ((repeat (refine ⟨by kernel_rfl, ?_⟩; (conv => whnf))); refine callF i2 ⟨.refl _, trivial⟩ (by trivial) rfl ?_)
  conv => whnf
  first | refine callF i2 ⟨.refl _, trivial⟩ (by trivial) rfl ?_ | ((repeat (refine ⟨by kernel_rfl, ?_⟩; (conv => whnf))); refine callF i2 ⟨.refl _, trivial⟩ (by trivial) rfl ?_)
  conv => whnf
  first | refine callF i3 ⟨.refl _, trivial⟩ (by trivial) rfl ?_ | ((repeat (refine ⟨by kernel_rfl, ?_⟩; (conv => whnf))); refine callF i3 ⟨.refl _, trivial⟩ (by trivial) rfl ?_)
  conv => whnf
  first | refine callF i1 ⟨.refl _, trivial⟩ (by trivial) rfl ?_ | ((repeat (refine ⟨by kernel_rfl, ?_⟩; (conv => whnf))); refine callF i1 ⟨.refl _, trivial⟩ (by trivial) rfl ?_)
  conv => whnf
  first | refine callF i1 ⟨.refl _, trivial⟩ (by trivial) rfl ?_ | ((repeat (refine ⟨by kernel_rfl, ?_⟩; (conv => whnf))); refine callF i1 ⟨.refl _, trivial⟩ (by trivial) rfl ?_)
  conv => whnf
  refine ⟨[6, 14, 12], ?_⟩
  conv => whnf
  exact ⟨⟨⟨⟨rfl, rfl, .inr rfl⟩, ⟨rfl, rfl, .inr rfl⟩, trivial⟩, trivial⟩, ⟨⟨.refl _, .refl _, .refl _, .refl _, .refl _, .nil, .nil, .refl _, .refl _, .refl _, .refl _, .refl _, .refl _, .refl _, .refl _, .refl _, .nil, .nil, .refl _, .refl _, .nil, .nil, trivial⟩, ⟨.refl _, .refl _, .refl _, .refl _, ⟨rfl, rfl, .inr rfl⟩, trivial⟩, ⟨.refl _, .refl _, .refl _, .refl _, .refl _, .refl _, .refl _, .refl _, trivial⟩, trivial⟩, rfl⟩
theorem exP12_ok : ACall Tryz.prog 45 [] exP.a := by
  refine (RCall.acall2 exP12_r (b := 2000001) (cells := exR1) (cells' := exR1') (r' := .agg [.f (.sl 11 (fun j => (exC1F.drop ((0 + j) * 11)).take 11) 2 none), .f (.sl 5 (fun j => (exR1F.drop ((0 + j) * 5)).take 5) 1 none)]) rfl ⟨.inl rfl, .inl rfl, .inl rfl, .inl rfl, .inr ⟨_, _, _, rfl, ?_, rfl⟩, trivial⟩ rfl ?_).res ?_
  · show 2 ≤ _
    decide
  · refine ⟨?_, ?_, trivial⟩
    · show 2 ≤ _
      decide
    · show 1 ≤ _
      decide
  · refine .agg ⟨.f (.sl (fun j hj => ?_) (.inl rfl)), .f (.sl (fun j hj => ?_) (.inl rfl)), trivial⟩
    · match j, hj with
      | 0, _ => exact All2.fle_co ⟨q1, true, RR.nil, true, q2⟩
      | 1, _ => exact All2.fle_co ⟨q2, true, RR.nil, false, RR.nil⟩
    · match j, hj with
      | 0, _ =>
        refine ⟨.refl _, .refl _, .refl _, .refl _, .sl (fun k hk => ?_) (.inl rfl), trivial⟩
        match k, hk with
        | 0, _ => exact All2.fle_en ⟨0, q1⟩
        | 1, _ => exact All2.fle_en ⟨1, q1⟩
/-- the program without a point -/
def noP : Pr := ⟨fun _ => ⟨RR.nil, false, RR.nil, true, RR.nil⟩, 1, fun _ => ⟨1, q1, fun _ => ⟨0, q1⟩, 1⟩, 1⟩
theorem noP_H : noP.H := by
  have z1 : q1.sz ≤ 1 := of_small (by decide)
  refine ⟨⟨fun j hj => ⟨RR.nil_ok, RR.nil_ok, RR.nil_ok⟩, fun i hi => ⟨⟨by show (-9223372036854775808 : Int) ≤ 1; decide, by show (1 : Int) ≤ 9223372036854775807; decide⟩, RR.of_ok _, fun j hj => ⟨⟨by show (-9223372036854775808 : Int) ≤ 0; decide, by show (0 : Int) ≤ 9223372036854775807; decide⟩, RR.of_ok _⟩⟩⟩, ?_, fun i hi => by show 1 ≤ _; omega, by show 1 ≤ _; omega, by show 1 ≤ _; omega⟩
  show 0 + (RR.nil.sz + RR.nil.sz + RR.nil.sz) + (0 + (q1.sz + (0 + (q1.sz + 1)) + 1)) ≤ 4194304
  rw [RR.nil_sz]; omega
theorem noP_err : noP.free.err = 0 := by
  unfold Pr.err
  have h1 : allB (fun j => !(noP.free.c j).cross) noP.free.nc = true := by
    refine allB_iff.2 fun j hj => rfl
  have h2 : allB (fun i => (noP.free.r i).ok noP.free.nc) noP.free.nr = true := by
    refine allB_iff.2 fun i hi => ?_
    unfold Ro.ok
    have : allB (entB (noP.free.r i).e noP.free.nc) (noP.free.r i).k = true := by
      refine allB_iff.2 fun k hk => ?_
      have hk : k < 1 := hk
      match k, hk with
      | 0, _ =>
        show (decide ((-1 : Int) < 0) && decide ((0 : Int) < 1) && decide (q1.v ≠ 0)) = true
        rw [q1v]; decide
    rw [this]; rfl
  rw [if_neg (by show ¬ (16384 < 1 ∨ 16384 < 1); omega), h1, if_neg (by simp), h2, if_neg (by simp)]
def oneY : Nat → RR := fun _ => q1
theorem oneY_xh : XH oneY 1 := xh_of (fun j _ => RR.of_ok _) (fun j _ => by show q1.sz ≤ _; exact Nat.le_trans (of_small (by decide)) (by decide)) (by omega)
theorem noP_red : noP.free.red oneY 0 = -1 := by
  have e : (noP.free.r 0).at 0 = 1 := by
    show 0 + (if (0 : Int) = ((0 : Nat) : Int) then q1.v else 0) = 1
    rw [q1v]; decide +kernel
  show RR.nil.v - (0 + q1.v * (noP.free.r 0).at 0) = -1
  rw [e, q1v, RR.nil_v]; decide +kernel
theorem noP_inf : noP.inf oneY 1 = true := by
  have hb : noP.free.bndOk oneY 1 = true := by
    unfold Pr.bndOk Pr.sgnd
    rw [decide_eq_true (errS_zero (a := 1) (b := noP.free.nr).2 ⟨noP_err, rfl⟩)]
    have h1 : allB (fun i => signB (noP.free.r i).s (oneY i).v) noP.free.nr = true := by
      show (true && signB 1 q1.v) = true
      rw [q1v]; decide +kernel
    have h2 : allB (fun j => colHas (noP.free.c j) (noP.free.red oneY j)) noP.free.nc = true := by
      show (true && colHas (noP.free.c 0) (noP.free.red oneY 0)) = true
      rw [noP_red]
      show (true && (decide ((-1 : Rat) = 0) || (decide (0 < (-1 : Rat)) && false) || (decide ((-1 : Rat) < 0) && true))) = true
      decide +kernel
    rw [h1, h2]; rfl
  have hd : noP.free.bnd oneY = 1 := by
    show (0 + q1.v * q1.v) + (0 + colB (noP.free.c 0) (noP.free.red oneY 0)) = _
    rw [noP_red]
    show (0 + q1.v * q1.v) + (0 + (if 0 < (-1 : Rat) then (-1) * RR.nil.v else if (-1 : Rat) < 0 then (-1) * RR.nil.v else 0)) = _
    rw [q1v, RR.nil_v]; decide +kernel
  unfold Pr.inf
  rw [hb, hd]; decide +kernel
theorem ex_inf : exP.inf oneY 1 = false := by
  have e : (exP.free.r 0).at 1 = 1 := by
    show 0 + (if (0 : Int) = ((1 : Nat) : Int) then q1.v else 0) + (if (1 : Int) = ((1 : Nat) : Int) then q1.v else 0) = 1
    rw [q1v]; decide +kernel
  have h : exP.free.red oneY 1 = -1 := by
    show RR.nil.v - (0 + q1.v * (exP.free.r 0).at 1) = -1
    rw [e, q1v, RR.nil_v]; decide +kernel
  have h2 : allB (fun j => colHas (exP.free.c j) (exP.free.red oneY j)) exP.free.nc = false := by
    show (true && colHas (exP.free.c 0) (exP.free.red oneY 0) && colHas (exP.free.c 1) (exP.free.red oneY 1)) = false
    rw [h]
    have : colHas (exP.free.c 1) (-1) = false := by
      show (decide ((-1 : Rat) = 0) || (decide (0 < (-1 : Rat)) && true) || (decide ((-1 : Rat) < 0) && false)) = false
      decide +kernel
    rw [this, Bool.and_false]
  unfold Pr.inf Pr.bndOk
  rw [h2, Bool.and_false, Bool.false_and]
theorem ex_opt : exP.opt exX 2 exY 1 = true := by
  unfold Pr.opt
  rw [ex_feas, ex_bndOk, ex_obj, ex_bnd]; decide
end Go.Abs

/- Laws of layer 12: awake; what is certified as optimal, as infeasible. -/
set_option autoImplicit false
set_option maxHeartbeats 4000000
set_option maxRecDepth 10000
set_option linter.unusedVariables false
set_option linter.unusedSimpArgs false
namespace Go.Abs
open Go Go.Proofs

theorem awake12_ok : ACall Tryz.prog 12 [] (.f (.bool true)) := by
  have e1 := exP12_ok
  have i1 := sFromInt_ok 1 (by decide)
  have i2 := sFromInt_ok 2 (by decide)
  have i4 := sFromInt_ok 4 (by decide)
  have o1 := sOf_ok 2001 1000 (by decide) (by decide)
  have j1 := rFromInt_ok 1 (by decide)
  have z1 : q1.sz ≤ 1 := of_small (by decide)
  have z2 : q2.sz ≤ 1 := of_small (by decide)
  have hx : XH exX 2 := xh_of (fun j _ => by unfold exX; split <;> exact RR.of_ok _) (fun j _ => by unfold exX; split <;> omega) (by omega)
  have hy : XH exY 1 := xh_of (fun j _ => RR.of_ok _) (fun j _ => by show q2.sz ≤ _; omega) (by omega)
  have sh := cShorten_ok
  have op := cOptimal_ok ex_H hx hy
  rw [ex_opt] at op
  have n1 := cInfeasible_ok noP_H oneY_xh
  rw [noP_inf] at n1
  have n2 := cInfeasible_ok ex_H oneY_xh
  rw [ex_inf] at n2
  have sm := sSame_ok (fun _ => ((2 : Int) : Rat)) 1 (fun j _ => Nat.le_trans (rsz_small (by decide)) (by omega)) (by omega)
  generalize exP = p at *
  refine acall_ruleE env Tryz.func12 rfl rfl rfl rfl ?_
  refine Ex.seq (keep := [0, 1, 2, 3]) ?_
  conv => whnf
  refine ⟨rfl, ?_⟩
  refine Ex.seq (keep := [0, 1, 2, 3]) ?_
  conv => whnf
  first | refine callF e1 trivial (by trivial) rfl ?_ | ((repeat (refine ⟨by kernel_rfl, ?_⟩; (conv => whnf))); refine callF e1 trivial (by trivial) rfl ?_)
  conv => whnf
  refine ⟨rfl, ?_⟩
  refine Ex.seq (keep := [0, 1, 2, 3]) ?_
  conv => whnf
  first | refine callF i1 ⟨.refl _, trivial⟩ (by trivial) rfl ?_ | ((repeat (refine ⟨by kernel_rfl, ?_⟩; (conv => whnf))); refine callF i1 ⟨.refl _, trivial⟩ (by trivial) rfl ?_)
  conv => whnf
  first | refine callF i1 ⟨.refl _, trivial⟩ (by trivial) rfl ?_ | ((repeat (refine ⟨by kernel_rfl, ?_⟩; (conv => whnf))); refine callF i1 ⟨.refl _, trivial⟩ (by trivial) rfl ?_)
  conv => whnf
  refine ⟨rfl, ?_⟩
  refine Ex.weak (freeze_weak 10 4 _ rfl) ?_
  refine Ex.weak (thaw_weak 12 1 _ [_, _, _, _, .f _] rfl ⟨.inl rfl, .inl rfl, .inl rfl, .inl rfl, .inr ⟨_, _, _, _, _, _, _, _, _, _, rfl, rfl, ⟨_, _, rfl, ?_⟩, rfl⟩, trivial⟩) ?_
  · show 1 ≤ _
    decide
  refine Ex.last (keep := [0, 1, 2, 3]) ?_
  conv => whnf
  first | refine callF o1 ⟨.refl _, .refl _, trivial⟩ (by trivial) rfl ?_ | ((repeat (refine ⟨by kernel_rfl, ?_⟩; (conv => whnf))); refine callF o1 ⟨.refl _, .refl _, trivial⟩ (by trivial) rfl ?_)
  conv => whnf
  first | refine callF i4 ⟨.refl _, trivial⟩ (by trivial) rfl ?_ | ((repeat (refine ⟨by kernel_rfl, ?_⟩; (conv => whnf))); refine callF i4 ⟨.refl _, trivial⟩ (by trivial) rfl ?_)
  conv => whnf
  first | refine callF j1 ⟨.refl _, trivial⟩ (by trivial) rfl ?_ | ((repeat (refine ⟨by kernel_rfl, ?_⟩; (conv => whnf))); refine callF j1 ⟨.refl _, trivial⟩ (by trivial) rfl ?_)
  conv => whnf
  refine callF sh ⟨.refl _, .f (.sl (fun j hj => match j, hj with | 0, _ => All2.fle_rr rr21) (.inl rfl)), .refl _, .refl _, trivial⟩ (by trivial) rfl ?_
  conv => whnf
  refine ⟨by kernel_rfl, ?_⟩
  conv => whnf
  first | refine callF i2 ⟨.refl _, trivial⟩ (by trivial) rfl ?_ | ((repeat (refine ⟨by kernel_rfl, ?_⟩; (conv => whnf))); refine callF i2 ⟨.refl _, trivial⟩ (by trivial) rfl ?_)
  conv => whnf
  first | refine callF i1 ⟨.refl _, trivial⟩ (by trivial) rfl ?_ | ((repeat (refine ⟨by kernel_rfl, ?_⟩; (conv => whnf))); refine callF i1 ⟨.refl _, trivial⟩ (by trivial) rfl ?_)
  conv => whnf
  first | refine callF i2 ⟨.refl _, trivial⟩ (by trivial) rfl ?_ | ((repeat (refine ⟨by kernel_rfl, ?_⟩; (conv => whnf))); refine callF i2 ⟨.refl _, trivial⟩ (by trivial) rfl ?_)
  conv => whnf
  refine callF op ⟨.refl _, .f (.sl (fun j hj => match j, hj with | 0, _ => All2.fle_rr q2 | 1, _ => All2.fle_rr q1) (.inl rfl)), .f (.sl (fun j hj => match j, hj with | 0, _ => All2.fle_rr q2) (.inl rfl)), trivial⟩ (by trivial) rfl ?_
  conv => whnf
  first | refine callF i1 ⟨.refl _, trivial⟩ (by trivial) rfl ?_ | ((repeat (refine ⟨by kernel_rfl, ?_⟩; (conv => whnf))); refine callF i1 ⟨.refl _, trivial⟩ (by trivial) rfl ?_)
  conv => whnf
  refine callF n1 ⟨.agg ⟨.f (.sl (fun j hj => ?_) (.inl rfl)), .f (.sl (fun j hj => ?_) (.inl rfl)), trivial⟩, .f (.sl (fun j hj => match j, hj with | 0, _ => All2.fle_rr q1) (.inl rfl)), trivial⟩ (by trivial) rfl ?_
  · match j, hj with
    | 0, _ => exact ⟨.refl _, .nil, .nil, .refl _, .refl _, .nil, .nil, .refl _, .refl _, .nil, .nil, trivial⟩
  · match j, hj with
    | 0, _ =>
      refine ⟨.refl _, .refl _, .refl _, .refl _, .sl (fun k hk => ?_) (.inl rfl), trivial⟩
      match k, hk with
      | 0, _ => exact All2.fle_en ⟨0, q1⟩
  conv => whnf
  first | refine callF i1 ⟨.refl _, trivial⟩ (by trivial) rfl ?_ | ((repeat (refine ⟨by kernel_rfl, ?_⟩; (conv => whnf))); refine callF i1 ⟨.refl _, trivial⟩ (by trivial) rfl ?_)
  conv => whnf
  refine callF n2 ⟨.refl _, .f (.sl (fun j hj => match j, hj with | 0, _ => All2.fle_rr q1) (.inl rfl)), trivial⟩ (by trivial) rfl ?_
  conv => whnf
  first | refine callF i2 ⟨.refl _, trivial⟩ (by trivial) rfl ?_ | ((repeat (refine ⟨by kernel_rfl, ?_⟩; (conv => whnf))); refine callF i2 ⟨.refl _, trivial⟩ (by trivial) rfl ?_)
  conv => whnf
  refine callF sm ⟨.refl _, .f (.sl (fun j hj => match j, hj with | 0, _ => All2.fle_rr q2) (.inl rfl)), trivial⟩ (by trivial) rfl ?_
  conv => whnf
  refine ⟨by kernel_rfl, ?_⟩
  conv => whnf
  (repeat (refine ⟨by kernel_rfl, ?_⟩; (conv => whnf)))
  refine ⟨(by (try simp only [true_and, and_true, Nat.sub_zero, Nat.zero_add, Int.toNat_natCast]) <;> omega), ?_⟩
  exact .refl _
theorem CertifyOptimal_ok {p : Pr} (hp : p.H) {x y o z : Nat → RR} {nx ny no nz : Nat} (hx : XH x nx) (hy : XH y ny) (ho : XH o no) (hz : XH z nz) :
    ACall Tryz.prog 3 [p.a, rats x nx, rats y ny, rats o no, rats z nz] (.f (.bool true)) := by
  have aw := awake12_ok
  have sm := lawSmall12_ok hp
  have op := cOptimal_ok hp hx hy
  cases hs : smallB p with
  | false =>
    rw [hs] at sm
    refine acall_rule env [0, 1, 2, 3, 4, 5, 10, 11, 21, 44] Tryz.func3 rfl rfl rfl rfl ?_
    conv => whnf
    first | refine callF sm ⟨.refl _, trivial⟩ (by trivial) rfl ?_ | ((repeat (refine ⟨by kernel_rfl, ?_⟩; (conv => whnf))); refine callF sm ⟨.refl _, trivial⟩ (by trivial) rfl ?_)
    conv => whnf
    first | refine callF aw trivial (by trivial) rfl ?_ | ((repeat (refine ⟨by kernel_rfl, ?_⟩; (conv => whnf))); refine callF aw trivial (by trivial) rfl ?_)
    conv => whnf
    (repeat (refine ⟨by kernel_rfl, ?_⟩; (conv => whnf)))
    refine ⟨(by (try simp only [true_and, and_true, Nat.sub_zero, Nat.zero_add, Int.toNat_natCast]) <;> omega), ?_⟩
    exact .refl _
  | true =>
  rw [hs] at sm
  cases hop : p.opt x nx y ny with
  | false =>
    rw [hop] at op
    refine acall_rule env [0, 1, 2, 3, 4, 5, 10, 11, 21, 44] Tryz.func3 rfl rfl rfl rfl ?_
    conv => whnf
    first | refine callF sm ⟨.refl _, trivial⟩ (by trivial) rfl ?_ | ((repeat (refine ⟨by kernel_rfl, ?_⟩; (conv => whnf))); refine callF sm ⟨.refl _, trivial⟩ (by trivial) rfl ?_)
    conv => whnf
    first | refine callF op ⟨.refl _, .refl _, .refl _, trivial⟩ (by trivial) rfl ?_ | ((repeat (refine ⟨by kernel_rfl, ?_⟩; (conv => whnf))); refine callF op ⟨.refl _, .refl _, .refl _, trivial⟩ (by trivial) rfl ?_)
    conv => whnf
    first | refine callF aw trivial (by trivial) rfl ?_ | ((repeat (refine ⟨by kernel_rfl, ?_⟩; (conv => whnf))); refine callF aw trivial (by trivial) rfl ?_)
    conv => whnf
    (repeat (refine ⟨by kernel_rfl, ?_⟩; (conv => whnf)))
    refine ⟨(by (try simp only [true_and, and_true, Nat.sub_zero, Nat.zero_add, Int.toNat_natCast]) <;> omega), ?_⟩
    exact .refl _
  | true =>
  rw [hop] at op
  unfold Pr.opt at hop
  simp only [Bool.and_eq_true, decide_eq_true_eq] at hop
  obtain ⟨⟨hf, hb⟩, hv⟩ := hop
  obtain ⟨he, hn, _⟩ := feas_facts hf
  have o1 := refObjective_ok hp hx (errS_zero.2 ⟨he, hn⟩)
  have hoz := obj_sz hp hx he hn
  have al := cAtLeast_ok hp hy (v := p.obj x) (by omega)
  rw [hb, decide_eq_true (show p.obj x ≤ p.bnd y by rw [hv]; exact Rat.le_refl), Bool.true_and] at al
  have of1 := sOf_ok 1 1000 (by decide) (by decide)
  have zo : rsz (Rat.divInt 1 1000) ≤ 1 := by decide +kernel
  have ad := sAdd_ok (isR_rat _ hoz) (isR_rat _ zo) (by omega)
  have zs := rsz_add hoz zo
  have al2 := cAtLeast_ok hp hz (v := p.obj x + Rat.divInt 1 1000) (by omega)
  have hno : (p.bndOk z nz && decide (p.obj x + Rat.divInt 1 1000 ≤ p.bnd z)) = false := by
    cases hbz : p.bndOk z nz with
    | false => rfl
    | true =>
      rw [Bool.true_and]
      refine decide_eq_false fun h => ?_
      have h2 := weak_duality hf hbz
      have h3 : (0 : Rat) < Rat.divInt 1 1000 := by decide +kernel
      grind
  rw [hno] at al2
  have f2 := refFeasible_ok hp ho
  have hpc := hp.c
  have hon := ho.n
  by_cases hl : no = p.nc
  · cases hfo : p.feas o no with
    | false =>
      rw [hfo] at f2
      generalize p.obj x = O at *
      refine acall_rule env [0, 1, 2, 3, 4, 5, 10, 11, 21, 44] Tryz.func3 rfl rfl rfl rfl ?_
      conv => whnf
      first | refine callF sm ⟨.refl _, trivial⟩ (by trivial) rfl ?_ | ((repeat (refine ⟨by kernel_rfl, ?_⟩; (conv => whnf))); refine callF sm ⟨.refl _, trivial⟩ (by trivial) rfl ?_)
      conv => whnf
      first | refine callF op ⟨.refl _, .refl _, .refl _, trivial⟩ (by trivial) rfl ?_ | ((repeat (refine ⟨by kernel_rfl, ?_⟩; (conv => whnf))); refine callF op ⟨.refl _, .refl _, .refl _, trivial⟩ (by trivial) rfl ?_)
      conv => whnf
      first | refine callF o1 ⟨.refl _, .refl _, trivial⟩ (by trivial) rfl ?_ | ((repeat (refine ⟨by kernel_rfl, ?_⟩; (conv => whnf))); refine callF o1 ⟨.refl _, .refl _, trivial⟩ (by trivial) rfl ?_)
      conv => whnf
      refine splT (by simp; omega) ?_
      conv => whnf
      first | refine callF f2 ⟨.refl _, .refl _, trivial⟩ (by trivial) rfl ?_ | ((repeat (refine ⟨by kernel_rfl, ?_⟩; (conv => whnf))); refine callF f2 ⟨.refl _, .refl _, trivial⟩ (by trivial) rfl ?_)
      conv => whnf
      refine ⟨by kernel_rfl, ?_⟩
      conv => whnf
      first | refine callF aw trivial (by trivial) rfl ?_ | ((repeat (refine ⟨by kernel_rfl, ?_⟩; (conv => whnf))); refine callF aw trivial (by trivial) rfl ?_)
      conv => whnf
      first | refine callF al ⟨.refl _, .refl _, .refl _, trivial⟩ (by trivial) rfl ?_ | ((repeat (refine ⟨by kernel_rfl, ?_⟩; (conv => whnf))); refine callF al ⟨.refl _, .refl _, .refl _, trivial⟩ (by trivial) rfl ?_)
      conv => whnf
      first | refine callF of1 ⟨.refl _, .refl _, trivial⟩ (by trivial) rfl ?_ | ((repeat (refine ⟨by kernel_rfl, ?_⟩; (conv => whnf))); refine callF of1 ⟨.refl _, .refl _, trivial⟩ (by trivial) rfl ?_)
      conv => whnf
      first | refine callF ad ⟨.refl _, .refl _, trivial⟩ (by trivial) rfl ?_ | ((repeat (refine ⟨by kernel_rfl, ?_⟩; (conv => whnf))); refine callF ad ⟨.refl _, .refl _, trivial⟩ (by trivial) rfl ?_)
      conv => whnf
      first | refine callF al2 ⟨.refl _, .refl _, .refl _, trivial⟩ (by trivial) rfl ?_ | ((repeat (refine ⟨by kernel_rfl, ?_⟩; (conv => whnf))); refine callF al2 ⟨.refl _, .refl _, .refl _, trivial⟩ (by trivial) rfl ?_)
      conv => whnf
      refine ⟨by kernel_rfl, ?_⟩
      conv => whnf
      (repeat (refine ⟨by kernel_rfl, ?_⟩; (conv => whnf)))
      refine ⟨(by (try simp only [true_and, and_true, Nat.sub_zero, Nat.zero_add, Int.toNat_natCast]) <;> omega), ?_⟩
      exact .refl _
    | true =>
      rw [hfo] at f2
      have o2 := refObjective_ok hp ho (errS_zero.2 ⟨he, hl⟩)
      have hoz2 := obj_sz hp ho he hl
      have c1 := sCompare_ok (isR_rat _ hoz2) (isR_rat _ hoz) (by omega)
      have hC : ¬ rcmp (p.obj o) (p.obj x) < 0 := by
        have h2 := weak_duality hfo hb
        rw [← hv] at h2
        have := rcmp_le.2 h2
        rw [rcmp_neg] at this; omega
      generalize rcmp (p.obj o) (p.obj x) = C at *
      generalize p.obj x = O at *
      generalize p.obj o = O2 at *
      refine acall_rule env [0, 1, 2, 3, 4, 5, 10, 11, 21, 44] Tryz.func3 rfl rfl rfl rfl ?_
      conv => whnf
      first | refine callF sm ⟨.refl _, trivial⟩ (by trivial) rfl ?_ | ((repeat (refine ⟨by kernel_rfl, ?_⟩; (conv => whnf))); refine callF sm ⟨.refl _, trivial⟩ (by trivial) rfl ?_)
      conv => whnf
      first | refine callF op ⟨.refl _, .refl _, .refl _, trivial⟩ (by trivial) rfl ?_ | ((repeat (refine ⟨by kernel_rfl, ?_⟩; (conv => whnf))); refine callF op ⟨.refl _, .refl _, .refl _, trivial⟩ (by trivial) rfl ?_)
      conv => whnf
      first | refine callF o1 ⟨.refl _, .refl _, trivial⟩ (by trivial) rfl ?_ | ((repeat (refine ⟨by kernel_rfl, ?_⟩; (conv => whnf))); refine callF o1 ⟨.refl _, .refl _, trivial⟩ (by trivial) rfl ?_)
      conv => whnf
      refine splT (by simp; omega) ?_
      conv => whnf
      first | refine callF f2 ⟨.refl _, .refl _, trivial⟩ (by trivial) rfl ?_ | ((repeat (refine ⟨by kernel_rfl, ?_⟩; (conv => whnf))); refine callF f2 ⟨.refl _, .refl _, trivial⟩ (by trivial) rfl ?_)
      conv => whnf
      first | refine callF o2 ⟨.refl _, .refl _, trivial⟩ (by trivial) rfl ?_ | ((repeat (refine ⟨by kernel_rfl, ?_⟩; (conv => whnf))); refine callF o2 ⟨.refl _, .refl _, trivial⟩ (by trivial) rfl ?_)
      conv => whnf
      first | refine callF c1 ⟨.refl _, .refl _, trivial⟩ (by trivial) rfl ?_ | ((repeat (refine ⟨by kernel_rfl, ?_⟩; (conv => whnf))); refine callF c1 ⟨.refl _, .refl _, trivial⟩ (by trivial) rfl ?_)
      conv => whnf
      refine ⟨by kernel_rfl, ?_⟩
      conv => whnf
      refine splF (decide_eq_false hC) ?_
      conv => whnf
      first | refine callF aw trivial (by trivial) rfl ?_ | ((repeat (refine ⟨by kernel_rfl, ?_⟩; (conv => whnf))); refine callF aw trivial (by trivial) rfl ?_)
      conv => whnf
      first | refine callF al ⟨.refl _, .refl _, .refl _, trivial⟩ (by trivial) rfl ?_ | ((repeat (refine ⟨by kernel_rfl, ?_⟩; (conv => whnf))); refine callF al ⟨.refl _, .refl _, .refl _, trivial⟩ (by trivial) rfl ?_)
      conv => whnf
      first | refine callF of1 ⟨.refl _, .refl _, trivial⟩ (by trivial) rfl ?_ | ((repeat (refine ⟨by kernel_rfl, ?_⟩; (conv => whnf))); refine callF of1 ⟨.refl _, .refl _, trivial⟩ (by trivial) rfl ?_)
      conv => whnf
      first | refine callF ad ⟨.refl _, .refl _, trivial⟩ (by trivial) rfl ?_ | ((repeat (refine ⟨by kernel_rfl, ?_⟩; (conv => whnf))); refine callF ad ⟨.refl _, .refl _, trivial⟩ (by trivial) rfl ?_)
      conv => whnf
      first | refine callF al2 ⟨.refl _, .refl _, .refl _, trivial⟩ (by trivial) rfl ?_ | ((repeat (refine ⟨by kernel_rfl, ?_⟩; (conv => whnf))); refine callF al2 ⟨.refl _, .refl _, .refl _, trivial⟩ (by trivial) rfl ?_)
      conv => whnf
      refine ⟨by kernel_rfl, ?_⟩
      conv => whnf
      (repeat (refine ⟨by kernel_rfl, ?_⟩; (conv => whnf)))
      refine ⟨(by (try simp only [true_and, and_true, Nat.sub_zero, Nat.zero_add, Int.toNat_natCast]) <;> omega), ?_⟩
      exact .refl _
  · generalize p.obj x = O at *
    refine acall_rule env [0, 1, 2, 3, 4, 5, 10, 11, 21, 44] Tryz.func3 rfl rfl rfl rfl ?_
    conv => whnf
    first | refine callF sm ⟨.refl _, trivial⟩ (by trivial) rfl ?_ | ((repeat (refine ⟨by kernel_rfl, ?_⟩; (conv => whnf))); refine callF sm ⟨.refl _, trivial⟩ (by trivial) rfl ?_)
    conv => whnf
    first | refine callF op ⟨.refl _, .refl _, .refl _, trivial⟩ (by trivial) rfl ?_ | ((repeat (refine ⟨by kernel_rfl, ?_⟩; (conv => whnf))); refine callF op ⟨.refl _, .refl _, .refl _, trivial⟩ (by trivial) rfl ?_)
    conv => whnf
    first | refine callF o1 ⟨.refl _, .refl _, trivial⟩ (by trivial) rfl ?_ | ((repeat (refine ⟨by kernel_rfl, ?_⟩; (conv => whnf))); refine callF o1 ⟨.refl _, .refl _, trivial⟩ (by trivial) rfl ?_)
    conv => whnf
    refine splF (by simp; omega) ?_
    conv => whnf
    refine ⟨by kernel_rfl, ?_⟩
    conv => whnf
    first | refine callF aw trivial (by trivial) rfl ?_ | ((repeat (refine ⟨by kernel_rfl, ?_⟩; (conv => whnf))); refine callF aw trivial (by trivial) rfl ?_)
    conv => whnf
    first | refine callF al ⟨.refl _, .refl _, .refl _, trivial⟩ (by trivial) rfl ?_ | ((repeat (refine ⟨by kernel_rfl, ?_⟩; (conv => whnf))); refine callF al ⟨.refl _, .refl _, .refl _, trivial⟩ (by trivial) rfl ?_)
    conv => whnf
    first | refine callF of1 ⟨.refl _, .refl _, trivial⟩ (by trivial) rfl ?_ | ((repeat (refine ⟨by kernel_rfl, ?_⟩; (conv => whnf))); refine callF of1 ⟨.refl _, .refl _, trivial⟩ (by trivial) rfl ?_)
    conv => whnf
    first | refine callF ad ⟨.refl _, .refl _, trivial⟩ (by trivial) rfl ?_ | ((repeat (refine ⟨by kernel_rfl, ?_⟩; (conv => whnf))); refine callF ad ⟨.refl _, .refl _, trivial⟩ (by trivial) rfl ?_)
    conv => whnf
    first | refine callF al2 ⟨.refl _, .refl _, .refl _, trivial⟩ (by trivial) rfl ?_ | ((repeat (refine ⟨by kernel_rfl, ?_⟩; (conv => whnf))); refine callF al2 ⟨.refl _, .refl _, .refl _, trivial⟩ (by trivial) rfl ?_)
    conv => whnf
    refine ⟨by kernel_rfl, ?_⟩
    conv => whnf
    (repeat (refine ⟨by kernel_rfl, ?_⟩; (conv => whnf)))
    refine ⟨(by (try simp only [true_and, and_true, Nat.sub_zero, Nat.zero_add, Int.toNat_natCast]) <;> omega), ?_⟩
    exact .refl _
theorem CertifyInfeasible_ok {p : Pr} (hp : p.H) {y x z r : Nat → RR} {ny nx nz nr : Nat} (hy : XH y ny) (hx : XH x nx) (hz : XH z nz) (hr : XH r nr) :
    ACall Tryz.prog 6 [p.a, rats y ny, rats x nx, rats z nz, rats r nr] (.f (.bool true)) := by
  have aw := awake12_ok
  have sm := lawSmall12_ok hp
  have inf := cInfeasible_ok hp hy
  cases hs : smallB p with
  | false =>
    rw [hs] at sm
    refine acall_rule env [0, 1, 2, 3, 4, 5, 10, 19] Tryz.func6 rfl rfl rfl rfl ?_
    conv => whnf
    first | refine callF sm ⟨.refl _, trivial⟩ (by trivial) rfl ?_ | ((repeat (refine ⟨by kernel_rfl, ?_⟩; (conv => whnf))); refine callF sm ⟨.refl _, trivial⟩ (by trivial) rfl ?_)
    conv => whnf
    first | refine callF aw trivial (by trivial) rfl ?_ | ((repeat (refine ⟨by kernel_rfl, ?_⟩; (conv => whnf))); refine callF aw trivial (by trivial) rfl ?_)
    conv => whnf
    (repeat (refine ⟨by kernel_rfl, ?_⟩; (conv => whnf)))
    refine ⟨(by (try simp only [true_and, and_true, Nat.sub_zero, Nat.zero_add, Int.toNat_natCast]) <;> omega), ?_⟩
    exact .refl _
  | true =>
  rw [hs] at sm
  cases hi : p.inf y ny with
  | false =>
    rw [hi] at inf
    refine acall_rule env [0, 1, 2, 3, 4, 5, 10, 19] Tryz.func6 rfl rfl rfl rfl ?_
    conv => whnf
    first | refine callF sm ⟨.refl _, trivial⟩ (by trivial) rfl ?_ | ((repeat (refine ⟨by kernel_rfl, ?_⟩; (conv => whnf))); refine callF sm ⟨.refl _, trivial⟩ (by trivial) rfl ?_)
    conv => whnf
    first | refine callF inf ⟨.refl _, .refl _, trivial⟩ (by trivial) rfl ?_ | ((repeat (refine ⟨by kernel_rfl, ?_⟩; (conv => whnf))); refine callF inf ⟨.refl _, .refl _, trivial⟩ (by trivial) rfl ?_)
    conv => whnf
    first | refine callF aw trivial (by trivial) rfl ?_ | ((repeat (refine ⟨by kernel_rfl, ?_⟩; (conv => whnf))); refine callF aw trivial (by trivial) rfl ?_)
    conv => whnf
    (repeat (refine ⟨by kernel_rfl, ?_⟩; (conv => whnf)))
    refine ⟨(by (try simp only [true_and, and_true, Nat.sub_zero, Nat.zero_add, Int.toNat_natCast]) <;> omega), ?_⟩
    exact .refl _
  | true =>
  rw [hi] at inf
  unfold Pr.inf at hi
  simp only [Bool.and_eq_true, decide_eq_true_eq] at hi
  obtain ⟨hb, hv⟩ := hi
  have hf : p.feas x nx = false := by
    cases h : p.feas x nx with
    | false => rfl
    | true =>
      have h2 := weak_duality (p := p.free) (by rw [Pr.free_feas]; exact h) hb
      rw [Pr.free_obj] at h2
      exact absurd h2 (Rat.not_le.2 hv)
  have f2 := refFeasible_ok hp hx
  have op := cOptimal_ok hp hx hz
  have un := cUnbounded_no hp hx (y := r) (m := nr) hf
  unfold Pr.opt at op
  rw [hf] at f2 op
  rw [Bool.false_and, Bool.false_and] at op
  refine acall_rule env [0, 1, 2, 3, 4, 5, 10, 19] Tryz.func6 rfl rfl rfl rfl ?_
  conv => whnf
  first | refine callF sm ⟨.refl _, trivial⟩ (by trivial) rfl ?_ | ((repeat (refine ⟨by kernel_rfl, ?_⟩; (conv => whnf))); refine callF sm ⟨.refl _, trivial⟩ (by trivial) rfl ?_)
  conv => whnf
  first | refine callF inf ⟨.refl _, .refl _, trivial⟩ (by trivial) rfl ?_ | ((repeat (refine ⟨by kernel_rfl, ?_⟩; (conv => whnf))); refine callF inf ⟨.refl _, .refl _, trivial⟩ (by trivial) rfl ?_)
  conv => whnf
  first | refine callF aw trivial (by trivial) rfl ?_ | ((repeat (refine ⟨by kernel_rfl, ?_⟩; (conv => whnf))); refine callF aw trivial (by trivial) rfl ?_)
  conv => whnf
  first | refine callF f2 ⟨.refl _, .refl _, trivial⟩ (by trivial) rfl ?_ | ((repeat (refine ⟨by kernel_rfl, ?_⟩; (conv => whnf))); refine callF f2 ⟨.refl _, .refl _, trivial⟩ (by trivial) rfl ?_)
  conv => whnf
  first | refine callF op ⟨.refl _, .refl _, .refl _, trivial⟩ (by trivial) rfl ?_ | ((repeat (refine ⟨by kernel_rfl, ?_⟩; (conv => whnf))); refine callF op ⟨.refl _, .refl _, .refl _, trivial⟩ (by trivial) rfl ?_)
  conv => whnf
  first | refine callF un ⟨.refl _, .refl _, .refl _, trivial⟩ (by trivial) rfl ?_ | ((repeat (refine ⟨by kernel_rfl, ?_⟩; (conv => whnf))); refine callF un ⟨.refl _, .refl _, .refl _, trivial⟩ (by trivial) rfl ?_)
  conv => whnf
  (repeat (refine ⟨by kernel_rfl, ?_⟩; (conv => whnf)))
  refine ⟨(by (try simp only [true_and, and_true, Nat.sub_zero, Nat.zero_add, Int.toNat_natCast]) <;> omega), ?_⟩
  exact .refl _
end Go.Abs

/- Rays: costs without a lower bound. -/
set_option autoImplicit false
set_option maxHeartbeats 4000000
set_option maxRecDepth 10000
set_option linter.unusedVariables false
set_option linter.unusedSimpArgs false
namespace Go.Abs
open Go Go.Proofs

def colU (c : Co) (r : Rat) : Bool := !((c.hl && decide (r < 0)) || (c.hu && decide (0 < r)))
def rowU (s : Int) (v : Rat) : Bool := !((decide (0 < v) && decide (s ≠ 1)) || (decide (v < 0) && decide (s ≠ -1)))
def Pr.ray (p : Pr) (r : Nat → RR) : Bool := allB (fun j => colU (p.c j) (r j).v) p.nc && allB (fun i => rowU (p.r i).s ((p.r i).act r)) p.nr && decide (p.obj r < 0)
def Pr.unb (p : Pr) (x : Nat → RR) (n : Nat) (r : Nat → RR) (m : Nat) : Bool := p.feas x n && decide (m = p.nc) && p.ray r
theorem qsum_ray (f a b : Nat → Rat) (t : Rat) : ∀ n, qsum (fun j => f j * (a j + t * b j)) n = qsum (fun j => f j * a j) n + t * qsum (fun j => f j * b j) n
  | 0 => by simp only [qsum]; grind
  | n + 1 => by simp only [qsum]; rw [qsum_ray f a b t n]; grind
theorem obj_ray {p : Pr} {x r z : Nat → RR} {t : Rat} (hz : ∀ j, j < p.nc → (z j).v = (x j).v + t * (r j).v) : p.obj z = p.obj x + t * p.obj r := by
  unfold Pr.obj
  rw [← qsum_ray]
  exact qsum_congr fun j hj => by rw [hz j hj]
theorem act_ray {p : Pr} (he : p.err = 0) {x r z : Nat → RR} {t : Rat} (hz : ∀ j, j < p.nc → (z j).v = (x j).v + t * (r j).v) {i : Nat} (hi : i < p.nr) : (p.r i).act z = (p.r i).act x + t * (p.r i).act r := by
  unfold Ro.act
  rw [← qsum_ray (fun k => ((p.r i).e k).v.v) (fun k => (x ((p.r i).e k).i.toNat).v) (fun k => (r ((p.r i).e k).i.toNat).v)]
  exact qsum_congr fun k hk => by
    have := row_range he hi k hk
    rw [hz _ (by omega)]
theorem ray_ge {t r : Rat} (ht : 0 ≤ t) (hr : ¬ r < 0) : 0 ≤ t * r := Rat.mul_nonneg ht (Rat.not_lt.1 hr)
theorem ray_le {t r : Rat} (ht : 0 ≤ t) (hr : ¬ 0 < r) : t * r ≤ 0 := by
  have := mul_le (Rat.not_lt.1 hr) ht
  rw [Rat.mul_zero] at this; exact this
theorem ray_facts {p : Pr} {r : Nat → RR} (h : p.ray r = true) : (∀ j, j < p.nc → ((p.c j).hl = true → ¬ (r j).v < 0) ∧ ((p.c j).hu = true → ¬ 0 < (r j).v)) ∧
    (∀ i, i < p.nr → (0 < (p.r i).act r → (p.r i).s = 1) ∧ ((p.r i).act r < 0 → (p.r i).s = -1)) ∧ p.obj r < 0 := by
  unfold Pr.ray at h
  simp only [Bool.and_eq_true, decide_eq_true_eq] at h
  refine ⟨fun j hj => ?_, fun i hi => ?_, h.2⟩
  · have h1 := allB_iff.1 h.1.1 j hj
    unfold colU at h1
    simp only [Bool.not_eq_true', Bool.or_eq_false_iff, Bool.and_eq_false_iff, decide_eq_false_iff_not] at h1
    exact ⟨fun e => by rcases h1.1 with h2 | h2; · rw [e] at h2; cases h2
                       · exact h2, fun e => by rcases h1.2 with h2 | h2; · rw [e] at h2; cases h2
                                               · exact h2⟩
  · have h1 := allB_iff.1 h.1.2 i hi
    unfold rowU at h1
    simp only [Bool.not_eq_true', Bool.or_eq_false_iff, Bool.and_eq_false_iff, decide_eq_false_iff_not] at h1
    exact ⟨fun e => by rcases h1.1 with h2 | h2; · exact absurd e h2
                       · omega, fun e => by rcases h1.2 with h2 | h2; · exact absurd e h2
                                            · omega⟩
theorem ray_feas {p : Pr} {x r z : Nat → RR} {n : Nat} {t : Rat} (hf : p.feas x n = true) (hr : p.ray r = true) (ht : 0 ≤ t) (hz : ∀ j, j < p.nc → (z j).v = (x j).v + t * (r j).v) : p.feas z n = true := by
  obtain ⟨he, hn, ca, ra⟩ := feas_facts hf
  obtain ⟨r1, r2, _⟩ := ray_facts hr
  refine feas_of he hn (fun j hj => ?_) (fun i hi => ?_)
  · have a1 := cv_iff.1 (ca j hj)
    obtain ⟨b1, b2⟩ := r1 j hj
    refine cv_iff.2 ⟨fun h => ?_, fun h => ?_⟩
    · rw [hz j hj]
      have := ray_ge ht (b1 h)
      have := a1.1 h
      grind
    · rw [hz j hj]
      have := ray_le ht (b2 h)
      have := a1.2 h
      grind
  · have a1 := holdB_iff.1 (rv_iff.1 (ra i hi))
    obtain ⟨b1, b2⟩ := r2 i hi
    refine rv_iff.2 (holdB_iff.2 ?_)
    rw [act_ray he hz hi]
    refine ⟨fun h => ?_, fun h => ?_, fun h2 h3 => ?_⟩
    · have := ray_le ht (fun h' => by have := b1 h'; omega)
      have := a1.1 h
      grind
    · have := ray_ge ht (fun h' => by have := b2 h'; omega)
      have := a1.2.1 h
      grind
    · have q1 := ray_le ht (fun h' => h3 (b1 h'))
      have q2 := ray_ge ht (fun h' => h2 (b2 h'))
      have := a1.2.2 h2 h3
      have : t * (p.r i).act r = 0 := by grind
      grind
theorem ray_no {p : Pr} {x r y : Nat → RR} {n m : Nat} (hf : p.feas x n = true) (hr : p.ray r = true) : p.bndOk y m = false := by
  cases hb : p.bndOk y m with
  | false => rfl
  | true =>
    exfalso
    have h1 := weak_duality hf hb
    have hneg := (ray_facts hr).2.2
    obtain ⟨D, hD⟩ : ∃ D, D = -(p.obj r) := ⟨_, rfl⟩
    have hD0 : 0 < D := by grind
    obtain ⟨t, ht⟩ : ∃ t, t = (p.obj x - p.bnd y + 1) * D⁻¹ := ⟨_, rfl⟩
    have hDi : 0 < D⁻¹ := Rat.inv_pos.2 hD0
    have ht0 : 0 ≤ t := by rw [ht]; exact Rat.mul_nonneg (by grind) (by grind)
    have hDc : D⁻¹ * D = 1 := Rat.inv_mul_cancel D (by grind)
    have hz : ∀ j, j < p.nc → ((fun j => RR.of ((x j).v + t * (r j).v)) j).v = (x j).v + t * (r j).v := fun j _ => RR.of_v _
    have h2 := weak_duality (ray_feas hf hr ht0 hz) hb
    rw [obj_ray hz] at h2
    have h3 : t * p.obj r = -(p.obj x - p.bnd y + 1) := by
      have e : p.obj r = -D := by grind
      rw [e, ht]
      have : (p.obj x - p.bnd y + 1) * D⁻¹ * -D = -((p.obj x - p.bnd y + 1) * (D⁻¹ * D)) := by grind
      rw [this, hDc, Rat.mul_one]
    rw [h3] at h2
    grind
theorem cUnbounded_ok {p : Pr} (hp : p.H) {x r : Nat → RR} {n m : Nat} (hx : XH x n) (hr : XH r m) : ACall Tryz.prog 34 [p.a, rats x n, rats r m] (.f (.bool (p.unb x n r m))) := by
  unfold Pr.unb
  cases hf : p.feas x n with
  | false => exact cUnbounded_no hp hx hf
  | true =>
  have f1 := lpFeasible_ok hp hx
  rw [hf] at f1
  obtain ⟨he, hn, _⟩ := feas_facts hf
  obtain ⟨b1, b2, _, _⟩ := Pr.err_facts he
  have hrn := hr.n
  by_cases hm : m = p.nc
  · rw [decide_eq_true hm, Bool.true_and, Bool.true_and]
    have o1 := lpObjective_ok hp hr
    have a1 := lpActivities_ok hp hr
    rw [objRes, if_neg (fun h => h (errS_zero.2 ⟨he, hm⟩))] at o1
    rw [actRes, if_neg (fun h => h (errS_zero.2 ⟨he, hm⟩))] at a1
    have hoz := obj_sz hp hr he hm
    subst hm
    have acz := fun i (hi : i < p.nr) => act_sz (hp.row he hi) hr
    have so := qSign_ok (isR_rat _ hoz) (by omega)
    have hso : decide (rcmp (p.obj r) 0 < 0) = decide (p.obj r < 0) := decide_eq_decide.2 (by
      constructor
      · intro h; exact Rat.not_le.1 fun h' => by have := rcmp_le.2 h'; rw [rcmp_neg] at this; omega
      · intro h; rw [rcmp_lt h]; decide)
    unfold Pr.ray
    rw [← hso]
    generalize rcmp (p.obj r) 0 = C0 at *
    generalize p.obj r = O at *
    obtain ⟨B1, hB1⟩ : ∃ B, allB (fun j => colU (p.c j) (r j).v) p.nc = B := ⟨_, rfl⟩
    obtain ⟨B2, hB2⟩ : ∃ B, allB (fun i => rowU (p.r i).s ((p.r i).act r)) p.nr = B := ⟨_, rfl⟩
    rw [hB1, hB2]
    refine acall_rule env [0, 1, 2, 3, 6, 7, 8, 9, 10, 12, 13, 14, 15, 28, 30, 31, 32, 33, 55, 64, 65, 66, 67, 91] Tryz.func34 rfl rfl rfl rfl ?_
    conv => whnf
    first | refine callF f1 ⟨.refl _, .refl _, trivial⟩ (by trivial) rfl ?_ | ((repeat (refine ⟨by kernel_rfl, ?_⟩; (conv => whnf))); refine callF f1 ⟨.refl _, .refl _, trivial⟩ (by trivial) rfl ?_)
    conv => whnf
    refine splF (by simp) ?_
    conv => whnf
    refine loop_mod [2, 3, 6, 30, 31, 32] [3] [2, 3, 6] [3]
      (fun μ fr hp_ => ∃ i : Nat, i ≤ p.nc ∧ allB (fun j => colU (p.c j) (r j).v) i = true ∧ fr = [(2, rats r p.nc), bpk 3 2, (6, .f (.bool false)), (30, .f (.sl 11 (fun j => (p.c j).c) p.nc none)), (31, .f (.int .i64 p.nc)), (32, .f (.int .i64 i))] ∧
        hp_ = [bxk 3 [.f (.sl 11 (fun j => (p.c j).c) p.nc none), .f (.sl 5 (fun i => (p.r i).c) p.nr none)]] ∧ μ = p.nc - i)
      (fun x fr hp_ => (x = .exit 0 ∧ B1 = true ∧ fr = [(2, rats r p.nc), bpk 3 2, (6, .f (.bool false))] ∧ hp_ = [bxk 3 [.f (.sl 11 (fun j => (p.c j).c) p.nc none), .f (.sl 5 (fun i => (p.r i).c) p.nr none)]]) ∨
        (x = .ret ∧ B1 = false ∧ fr = [(2, rats r p.nc), bpk 3 2, (6, .f (.bool false))] ∧ hp_ = [bxk 3 [.f (.sl 11 (fun j => (p.c j).c) p.nc none), .f (.sl 5 (fun i => (p.r i).c) p.nr none)]]))
      ⟨_, _, _, _, rfl, .refl _, 0, Nat.zero_le _, rfl, rfl, rfl, rfl⟩ ?_ ?_
    · rintro _ _ _ (⟨rfl, rfl, rfl, rfl⟩ | ⟨rfl, rfl, rfl, rfl⟩)
      · conv => whnf
        first | refine callF a1 ⟨.refl _, .refl _, trivial⟩ (by trivial) rfl ?_ | ((repeat (refine ⟨by kernel_rfl, ?_⟩; (conv => whnf))); refine callF a1 ⟨.refl _, .refl _, trivial⟩ (by trivial) rfl ?_)
        conv => whnf
        refine loop_mod [2, 3, 6, 10, 64, 65, 66] [3] [2, 3, 6] [3]
          (fun μ fr hp_ => ∃ i : Nat, i ≤ p.nr ∧ allB (fun i => rowU (p.r i).s ((p.r i).act r)) i = true ∧ fr = [(2, rats r p.nc), bpk 3 2, (6, .f (.bool false)), (10, ratsRes (fun i => (p.r i).act r) p.nr), (64, .f (.sl 5 (fun i => (p.r i).c) p.nr none)), (65, .f (.int .i64 p.nr)), (66, .f (.int .i64 i))] ∧
            hp_ = [bxk 3 [.f (.sl 11 (fun j => (p.c j).c) p.nc none), .f (.sl 5 (fun i => (p.r i).c) p.nr none)]] ∧ μ = p.nr - i)
          (fun x fr hp_ => (x = .exit 2 ∧ B2 = true ∧ fr = [(2, rats r p.nc), bpk 3 2, (6, .f (.bool false))] ∧ hp_ = [bxk 3 [.f (.sl 11 (fun j => (p.c j).c) p.nc none), .f (.sl 5 (fun i => (p.r i).c) p.nr none)]]) ∨
            (x = .ret ∧ B2 = false ∧ fr = [(2, rats r p.nc), bpk 3 2, (6, .f (.bool false))] ∧ hp_ = [bxk 3 [.f (.sl 11 (fun j => (p.c j).c) p.nc none), .f (.sl 5 (fun i => (p.r i).c) p.nr none)]]))
          ⟨_, _, _, _, rfl, .refl _, 0, Nat.zero_le _, rfl, rfl, rfl, rfl⟩ ?_ ?_
        · rintro _ _ _ (⟨rfl, rfl, rfl, rfl⟩ | ⟨rfl, rfl, rfl, rfl⟩)
          · conv => whnf
            first | refine callF o1 ⟨.refl _, .refl _, trivial⟩ (by trivial) rfl ?_ | ((repeat (refine ⟨by kernel_rfl, ?_⟩; (conv => whnf))); refine callF o1 ⟨.refl _, .refl _, trivial⟩ (by trivial) rfl ?_)
            conv => whnf
            first | refine callF so ⟨.refl _, trivial⟩ (by trivial) rfl ?_ | ((repeat (refine ⟨by kernel_rfl, ?_⟩; (conv => whnf))); refine callF so ⟨.refl _, trivial⟩ (by trivial) rfl ?_)
            conv => whnf
            (repeat (refine ⟨by kernel_rfl, ?_⟩; (conv => whnf)))
            refine ⟨(by (try simp only [true_and, and_true, Nat.sub_zero, Nat.zero_add, Int.toNat_natCast]) <;> omega), ?_⟩
            exact .refl _
          · conv => whnf
            (repeat (refine ⟨by kernel_rfl, ?_⟩; (conv => whnf)))
            refine ⟨(by (try simp only [true_and, and_true, Nat.sub_zero, Nat.zero_add, Int.toNat_natCast]) <;> omega), ?_⟩
            exact .refl _
        rintro μ _ _ ⟨i, hi, hall, rfl, rfl, rfl⟩
        by_cases hik : i < p.nr
        · have s1 := qSign_ok (isR_rat _ (acz i hik)) (by omega)
          rw [← RR.of_a] at s1
          have hf : rowU (p.r i).s ((p.r i).act r) = false → B2 = false := fun h => hB2.symm.trans (allB_false hik h)
          have hb : allB (fun i => rowU (p.r i).s ((p.r i).act r)) (i + 1) = rowU (p.r i).s ((p.r i).act r) := by rw [allB, hall, Bool.true_and]
          have hcu : rowU (p.r i).s ((p.r i).act r) = !((decide (0 < (p.r i).act r) && decide ((p.r i).s ≠ 1)) || (decide ((p.r i).act r < 0) && decide ((p.r i).s ≠ -1))) := rfl
          rcases rcmp_cases ((p.r i).act r) with ⟨h1, h2⟩ | ⟨h1, h2⟩ | ⟨h1, h2⟩
          · rw [h2] at s1
            rw [decide_eq_true h1, decide_eq_false (show ¬ (p.r i).act r < 0 by grind)] at hcu
            by_cases hs : (p.r i).s = 1
            · conv => whnf
              refine splT (by simp only [decide_eq_true_eq, decide_eq_false_iff_not, Bool.not_eq_true', Bool.not_eq_false', gt_iff_lt, ge_iff_le] <;> omega) ?_
              conv => whnf
              refine ⟨(by (try simp only [true_and, and_true, Nat.sub_zero, Nat.zero_add, Int.toNat_natCast]) <;> omega), ?_⟩
              conv => whnf
              refine ⟨(by (try simp only [true_and, and_true, Nat.sub_zero, Nat.zero_add, Int.toNat_natCast]) <;> omega), ?_⟩
              conv => whnf
              first | refine callF s1 ⟨.refl _, trivial⟩ (by trivial) rfl ?_ | ((repeat (refine ⟨by kernel_rfl, ?_⟩; (conv => whnf))); refine callF s1 ⟨.refl _, trivial⟩ (by trivial) rfl ?_)
              conv => whnf
              refine splF (show (!decide ((p.r i).s = 1)) = false by rw [decide_eq_true hs]; rfl) ?_
              conv => whnf
              refine fit64 (by omega) ?_
              conv => whnf
              refine ⟨_, ?_, _, _, _, rfl, .refl _, i + 1, hik, by rw [hb, hcu]; simp [*], rfl, rfl, rfl⟩
              omega
            · conv => whnf
              refine splT (by simp only [decide_eq_true_eq, decide_eq_false_iff_not, Bool.not_eq_true', Bool.not_eq_false', gt_iff_lt, ge_iff_le] <;> omega) ?_
              conv => whnf
              refine ⟨(by (try simp only [true_and, and_true, Nat.sub_zero, Nat.zero_add, Int.toNat_natCast]) <;> omega), ?_⟩
              conv => whnf
              refine ⟨(by (try simp only [true_and, and_true, Nat.sub_zero, Nat.zero_add, Int.toNat_natCast]) <;> omega), ?_⟩
              conv => whnf
              first | refine callF s1 ⟨.refl _, trivial⟩ (by trivial) rfl ?_ | ((repeat (refine ⟨by kernel_rfl, ?_⟩; (conv => whnf))); refine callF s1 ⟨.refl _, trivial⟩ (by trivial) rfl ?_)
              conv => whnf
              refine splT (show (!decide ((p.r i).s = 1)) = true by rw [decide_eq_false hs]; rfl) ?_
              conv => whnf
              exact ⟨_, _, _, rfl, .refl _, .inr ⟨rfl, hf (by rw [hcu]; simp [*]), rfl, rfl⟩⟩
          · rw [h2] at s1
            rw [decide_eq_false (show ¬ 0 < (p.r i).act r by grind), decide_eq_false (show ¬ (p.r i).act r < 0 by grind)] at hcu
            conv => whnf
            refine splT (by simp only [decide_eq_true_eq, decide_eq_false_iff_not, Bool.not_eq_true', Bool.not_eq_false', gt_iff_lt, ge_iff_le] <;> omega) ?_
            conv => whnf
            refine ⟨(by (try simp only [true_and, and_true, Nat.sub_zero, Nat.zero_add, Int.toNat_natCast]) <;> omega), ?_⟩
            conv => whnf
            refine ⟨(by (try simp only [true_and, and_true, Nat.sub_zero, Nat.zero_add, Int.toNat_natCast]) <;> omega), ?_⟩
            conv => whnf
            first | refine callF s1 ⟨.refl _, trivial⟩ (by trivial) rfl ?_ | ((repeat (refine ⟨by kernel_rfl, ?_⟩; (conv => whnf))); refine callF s1 ⟨.refl _, trivial⟩ (by trivial) rfl ?_)
            conv => whnf
            refine fit64 (by omega) ?_
            conv => whnf
            refine ⟨_, ?_, _, _, _, rfl, .refl _, i + 1, hik, by rw [hb, hcu]; simp [*], rfl, rfl, rfl⟩
            omega
          · rw [h2] at s1
            rw [decide_eq_false (show ¬ 0 < (p.r i).act r by grind), decide_eq_true h1] at hcu
            by_cases hs : (p.r i).s = -1
            · conv => whnf
              refine splT (by simp only [decide_eq_true_eq, decide_eq_false_iff_not, Bool.not_eq_true', Bool.not_eq_false', gt_iff_lt, ge_iff_le] <;> omega) ?_
              conv => whnf
              refine ⟨(by (try simp only [true_and, and_true, Nat.sub_zero, Nat.zero_add, Int.toNat_natCast]) <;> omega), ?_⟩
              conv => whnf
              refine ⟨(by (try simp only [true_and, and_true, Nat.sub_zero, Nat.zero_add, Int.toNat_natCast]) <;> omega), ?_⟩
              conv => whnf
              first | refine callF s1 ⟨.refl _, trivial⟩ (by trivial) rfl ?_ | ((repeat (refine ⟨by kernel_rfl, ?_⟩; (conv => whnf))); refine callF s1 ⟨.refl _, trivial⟩ (by trivial) rfl ?_)
              conv => whnf
              refine splF (show (!decide ((p.r i).s = -1)) = false by rw [decide_eq_true hs]; rfl) ?_
              conv => whnf
              refine fit64 (by omega) ?_
              conv => whnf
              refine ⟨_, ?_, _, _, _, rfl, .refl _, i + 1, hik, by rw [hb, hcu]; simp [*], rfl, rfl, rfl⟩
              omega
            · conv => whnf
              refine splT (by simp only [decide_eq_true_eq, decide_eq_false_iff_not, Bool.not_eq_true', Bool.not_eq_false', gt_iff_lt, ge_iff_le] <;> omega) ?_
              conv => whnf
              refine ⟨(by (try simp only [true_and, and_true, Nat.sub_zero, Nat.zero_add, Int.toNat_natCast]) <;> omega), ?_⟩
              conv => whnf
              refine ⟨(by (try simp only [true_and, and_true, Nat.sub_zero, Nat.zero_add, Int.toNat_natCast]) <;> omega), ?_⟩
              conv => whnf
              first | refine callF s1 ⟨.refl _, trivial⟩ (by trivial) rfl ?_ | ((repeat (refine ⟨by kernel_rfl, ?_⟩; (conv => whnf))); refine callF s1 ⟨.refl _, trivial⟩ (by trivial) rfl ?_)
              conv => whnf
              refine splT (show (!decide ((p.r i).s = -1)) = true by rw [decide_eq_false hs]; rfl) ?_
              conv => whnf
              exact ⟨_, _, _, rfl, .refl _, .inr ⟨rfl, hf (by rw [hcu]; simp [*]), rfl, rfl⟩⟩
        · obtain rfl : i = p.nr := by omega
          conv => whnf
          refine splF (by simp only [decide_eq_true_eq, decide_eq_false_iff_not, Bool.not_eq_true', Bool.not_eq_false', gt_iff_lt, ge_iff_le] <;> omega) ?_
          conv => whnf
          exact ⟨_, _, _, rfl, .refl _, .inl ⟨rfl, by rw [← hB2, hall], rfl, rfl⟩⟩
      · conv => whnf
        (repeat (refine ⟨by kernel_rfl, ?_⟩; (conv => whnf)))
        refine ⟨(by (try simp only [true_and, and_true, Nat.sub_zero, Nat.zero_add, Int.toNat_natCast]) <;> omega), ?_⟩
        exact .refl _
    rintro μ _ _ ⟨i, hi, hall, rfl, rfl, rfl⟩
    by_cases hik : i < p.nc
    · have s1 := qSign_ok (hr.ok i hik).is (by have := hr.s i hik; omega)
      have hf : colU (p.c i) (r i).v = false → B1 = false := fun h => hB1.symm.trans (allB_false hik h)
      have hb : allB (fun j => colU (p.c j) (r j).v) (i + 1) = colU (p.c i) (r i).v := by rw [allB, hall, Bool.true_and]
      have hcu : colU (p.c i) (r i).v = !(((p.c i).hl && decide ((r i).v < 0)) || ((p.c i).hu && decide (0 < (r i).v))) := rfl
      rcases rcmp_cases (r i).v with ⟨h1, h2⟩ | ⟨h1, h2⟩ | ⟨h1, h2⟩
      · rw [h2] at s1
        rw [decide_eq_true h1, decide_eq_false (show ¬ (r i).v < 0 by grind)] at hcu
        by_cases hl : (p.c i).hl = true
        · by_cases hu : (p.c i).hu = true
          · conv => whnf
            refine splT (by simp only [decide_eq_true_eq, decide_eq_false_iff_not, Bool.not_eq_true', Bool.not_eq_false', gt_iff_lt, ge_iff_le] <;> omega) ?_
            conv => whnf
            refine ⟨(by (try simp only [true_and, and_true, Nat.sub_zero, Nat.zero_add, Int.toNat_natCast]) <;> omega), ?_⟩
            conv => whnf
            refine ⟨(by (try simp only [true_and, and_true, Nat.sub_zero, Nat.zero_add, Int.toNat_natCast]) <;> omega), ?_⟩
            conv => whnf
            first | refine callF s1 ⟨.refl _, trivial⟩ (by trivial) rfl ?_ | ((repeat (refine ⟨by kernel_rfl, ?_⟩; (conv => whnf))); refine callF s1 ⟨.refl _, trivial⟩ (by trivial) rfl ?_)
            conv => whnf
            refine splT hl ?_
            conv => whnf
            refine splT hu ?_
            conv => whnf
            exact ⟨_, _, _, rfl, .refl _, .inr ⟨rfl, hf (by rw [hcu]; simp [*]), rfl, rfl⟩⟩
          · conv => whnf
            refine splT (by simp only [decide_eq_true_eq, decide_eq_false_iff_not, Bool.not_eq_true', Bool.not_eq_false', gt_iff_lt, ge_iff_le] <;> omega) ?_
            conv => whnf
            refine ⟨(by (try simp only [true_and, and_true, Nat.sub_zero, Nat.zero_add, Int.toNat_natCast]) <;> omega), ?_⟩
            conv => whnf
            refine ⟨(by (try simp only [true_and, and_true, Nat.sub_zero, Nat.zero_add, Int.toNat_natCast]) <;> omega), ?_⟩
            conv => whnf
            first | refine callF s1 ⟨.refl _, trivial⟩ (by trivial) rfl ?_ | ((repeat (refine ⟨by kernel_rfl, ?_⟩; (conv => whnf))); refine callF s1 ⟨.refl _, trivial⟩ (by trivial) rfl ?_)
            conv => whnf
            refine splT hl ?_
            conv => whnf
            refine splF (by simpa using hu) ?_
            conv => whnf
            refine fit64 (by omega) ?_
            conv => whnf
            refine ⟨_, ?_, _, _, _, rfl, .refl _, i + 1, hik, by rw [hb, hcu]; simp [*], rfl, rfl, rfl⟩
            omega
        · by_cases hu : (p.c i).hu = true
          · conv => whnf
            refine splT (by simp only [decide_eq_true_eq, decide_eq_false_iff_not, Bool.not_eq_true', Bool.not_eq_false', gt_iff_lt, ge_iff_le] <;> omega) ?_
            conv => whnf
            refine ⟨(by (try simp only [true_and, and_true, Nat.sub_zero, Nat.zero_add, Int.toNat_natCast]) <;> omega), ?_⟩
            conv => whnf
            refine ⟨(by (try simp only [true_and, and_true, Nat.sub_zero, Nat.zero_add, Int.toNat_natCast]) <;> omega), ?_⟩
            conv => whnf
            first | refine callF s1 ⟨.refl _, trivial⟩ (by trivial) rfl ?_ | ((repeat (refine ⟨by kernel_rfl, ?_⟩; (conv => whnf))); refine callF s1 ⟨.refl _, trivial⟩ (by trivial) rfl ?_)
            conv => whnf
            refine splF (by simpa using hl) ?_
            conv => whnf
            refine splT hu ?_
            conv => whnf
            exact ⟨_, _, _, rfl, .refl _, .inr ⟨rfl, hf (by rw [hcu]; simp [*]), rfl, rfl⟩⟩
          · conv => whnf
            refine splT (by simp only [decide_eq_true_eq, decide_eq_false_iff_not, Bool.not_eq_true', Bool.not_eq_false', gt_iff_lt, ge_iff_le] <;> omega) ?_
            conv => whnf
            refine ⟨(by (try simp only [true_and, and_true, Nat.sub_zero, Nat.zero_add, Int.toNat_natCast]) <;> omega), ?_⟩
            conv => whnf
            refine ⟨(by (try simp only [true_and, and_true, Nat.sub_zero, Nat.zero_add, Int.toNat_natCast]) <;> omega), ?_⟩
            conv => whnf
            first | refine callF s1 ⟨.refl _, trivial⟩ (by trivial) rfl ?_ | ((repeat (refine ⟨by kernel_rfl, ?_⟩; (conv => whnf))); refine callF s1 ⟨.refl _, trivial⟩ (by trivial) rfl ?_)
            conv => whnf
            refine splF (by simpa using hl) ?_
            conv => whnf
            refine splF (by simpa using hu) ?_
            conv => whnf
            refine fit64 (by omega) ?_
            conv => whnf
            refine ⟨_, ?_, _, _, _, rfl, .refl _, i + 1, hik, by rw [hb, hcu]; simp [*], rfl, rfl, rfl⟩
            omega
      · rw [h2] at s1
        rw [decide_eq_false (show ¬ 0 < (r i).v by grind), decide_eq_false (show ¬ (r i).v < 0 by grind), Bool.and_false, Bool.and_false] at hcu
        by_cases hl : (p.c i).hl = true
        · by_cases hu : (p.c i).hu = true
          · conv => whnf
            refine splT (by simp only [decide_eq_true_eq, decide_eq_false_iff_not, Bool.not_eq_true', Bool.not_eq_false', gt_iff_lt, ge_iff_le] <;> omega) ?_
            conv => whnf
            refine ⟨(by (try simp only [true_and, and_true, Nat.sub_zero, Nat.zero_add, Int.toNat_natCast]) <;> omega), ?_⟩
            conv => whnf
            refine ⟨(by (try simp only [true_and, and_true, Nat.sub_zero, Nat.zero_add, Int.toNat_natCast]) <;> omega), ?_⟩
            conv => whnf
            first | refine callF s1 ⟨.refl _, trivial⟩ (by trivial) rfl ?_ | ((repeat (refine ⟨by kernel_rfl, ?_⟩; (conv => whnf))); refine callF s1 ⟨.refl _, trivial⟩ (by trivial) rfl ?_)
            conv => whnf
            refine splT hl ?_
            conv => whnf
            refine splT hu ?_
            conv => whnf
            refine fit64 (by omega) ?_
            conv => whnf
            refine ⟨_, ?_, _, _, _, rfl, .refl _, i + 1, hik, by rw [hb, hcu]; simp [*], rfl, rfl, rfl⟩
            omega
          · conv => whnf
            refine splT (by simp only [decide_eq_true_eq, decide_eq_false_iff_not, Bool.not_eq_true', Bool.not_eq_false', gt_iff_lt, ge_iff_le] <;> omega) ?_
            conv => whnf
            refine ⟨(by (try simp only [true_and, and_true, Nat.sub_zero, Nat.zero_add, Int.toNat_natCast]) <;> omega), ?_⟩
            conv => whnf
            refine ⟨(by (try simp only [true_and, and_true, Nat.sub_zero, Nat.zero_add, Int.toNat_natCast]) <;> omega), ?_⟩
            conv => whnf
            first | refine callF s1 ⟨.refl _, trivial⟩ (by trivial) rfl ?_ | ((repeat (refine ⟨by kernel_rfl, ?_⟩; (conv => whnf))); refine callF s1 ⟨.refl _, trivial⟩ (by trivial) rfl ?_)
            conv => whnf
            refine splT hl ?_
            conv => whnf
            refine splF (by simpa using hu) ?_
            conv => whnf
            refine fit64 (by omega) ?_
            conv => whnf
            refine ⟨_, ?_, _, _, _, rfl, .refl _, i + 1, hik, by rw [hb, hcu]; simp [*], rfl, rfl, rfl⟩
            omega
        · by_cases hu : (p.c i).hu = true
          · conv => whnf
            refine splT (by simp only [decide_eq_true_eq, decide_eq_false_iff_not, Bool.not_eq_true', Bool.not_eq_false', gt_iff_lt, ge_iff_le] <;> omega) ?_
            conv => whnf
            refine ⟨(by (try simp only [true_and, and_true, Nat.sub_zero, Nat.zero_add, Int.toNat_natCast]) <;> omega), ?_⟩
            conv => whnf
            refine ⟨(by (try simp only [true_and, and_true, Nat.sub_zero, Nat.zero_add, Int.toNat_natCast]) <;> omega), ?_⟩
            conv => whnf
            first | refine callF s1 ⟨.refl _, trivial⟩ (by trivial) rfl ?_ | ((repeat (refine ⟨by kernel_rfl, ?_⟩; (conv => whnf))); refine callF s1 ⟨.refl _, trivial⟩ (by trivial) rfl ?_)
            conv => whnf
            refine splF (by simpa using hl) ?_
            conv => whnf
            refine splT hu ?_
            conv => whnf
            refine fit64 (by omega) ?_
            conv => whnf
            refine ⟨_, ?_, _, _, _, rfl, .refl _, i + 1, hik, by rw [hb, hcu]; simp [*], rfl, rfl, rfl⟩
            omega
          · conv => whnf
            refine splT (by simp only [decide_eq_true_eq, decide_eq_false_iff_not, Bool.not_eq_true', Bool.not_eq_false', gt_iff_lt, ge_iff_le] <;> omega) ?_
            conv => whnf
            refine ⟨(by (try simp only [true_and, and_true, Nat.sub_zero, Nat.zero_add, Int.toNat_natCast]) <;> omega), ?_⟩
            conv => whnf
            refine ⟨(by (try simp only [true_and, and_true, Nat.sub_zero, Nat.zero_add, Int.toNat_natCast]) <;> omega), ?_⟩
            conv => whnf
            first | refine callF s1 ⟨.refl _, trivial⟩ (by trivial) rfl ?_ | ((repeat (refine ⟨by kernel_rfl, ?_⟩; (conv => whnf))); refine callF s1 ⟨.refl _, trivial⟩ (by trivial) rfl ?_)
            conv => whnf
            refine splF (by simpa using hl) ?_
            conv => whnf
            refine splF (by simpa using hu) ?_
            conv => whnf
            refine fit64 (by omega) ?_
            conv => whnf
            refine ⟨_, ?_, _, _, _, rfl, .refl _, i + 1, hik, by rw [hb, hcu]; simp [*], rfl, rfl, rfl⟩
            omega
      · rw [h2] at s1
        rw [decide_eq_false (show ¬ 0 < (r i).v by grind), decide_eq_true h1] at hcu
        by_cases hl : (p.c i).hl = true
        · conv => whnf
          refine splT (by simp only [decide_eq_true_eq, decide_eq_false_iff_not, Bool.not_eq_true', Bool.not_eq_false', gt_iff_lt, ge_iff_le] <;> omega) ?_
          conv => whnf
          refine ⟨(by (try simp only [true_and, and_true, Nat.sub_zero, Nat.zero_add, Int.toNat_natCast]) <;> omega), ?_⟩
          conv => whnf
          refine ⟨(by (try simp only [true_and, and_true, Nat.sub_zero, Nat.zero_add, Int.toNat_natCast]) <;> omega), ?_⟩
          conv => whnf
          first | refine callF s1 ⟨.refl _, trivial⟩ (by trivial) rfl ?_ | ((repeat (refine ⟨by kernel_rfl, ?_⟩; (conv => whnf))); refine callF s1 ⟨.refl _, trivial⟩ (by trivial) rfl ?_)
          conv => whnf
          refine splT hl ?_
          conv => whnf
          exact ⟨_, _, _, rfl, .refl _, .inr ⟨rfl, hf (by rw [hcu]; simp [*]), rfl, rfl⟩⟩
        · by_cases hu : (p.c i).hu = true
          · conv => whnf
            refine splT (by simp only [decide_eq_true_eq, decide_eq_false_iff_not, Bool.not_eq_true', Bool.not_eq_false', gt_iff_lt, ge_iff_le] <;> omega) ?_
            conv => whnf
            refine ⟨(by (try simp only [true_and, and_true, Nat.sub_zero, Nat.zero_add, Int.toNat_natCast]) <;> omega), ?_⟩
            conv => whnf
            refine ⟨(by (try simp only [true_and, and_true, Nat.sub_zero, Nat.zero_add, Int.toNat_natCast]) <;> omega), ?_⟩
            conv => whnf
            first | refine callF s1 ⟨.refl _, trivial⟩ (by trivial) rfl ?_ | ((repeat (refine ⟨by kernel_rfl, ?_⟩; (conv => whnf))); refine callF s1 ⟨.refl _, trivial⟩ (by trivial) rfl ?_)
            conv => whnf
            refine splF (by simpa using hl) ?_
            conv => whnf
            refine splT hu ?_
            conv => whnf
            refine fit64 (by omega) ?_
            conv => whnf
            refine ⟨_, ?_, _, _, _, rfl, .refl _, i + 1, hik, by rw [hb, hcu]; simp [*], rfl, rfl, rfl⟩
            omega
          · conv => whnf
            refine splT (by simp only [decide_eq_true_eq, decide_eq_false_iff_not, Bool.not_eq_true', Bool.not_eq_false', gt_iff_lt, ge_iff_le] <;> omega) ?_
            conv => whnf
            refine ⟨(by (try simp only [true_and, and_true, Nat.sub_zero, Nat.zero_add, Int.toNat_natCast]) <;> omega), ?_⟩
            conv => whnf
            refine ⟨(by (try simp only [true_and, and_true, Nat.sub_zero, Nat.zero_add, Int.toNat_natCast]) <;> omega), ?_⟩
            conv => whnf
            first | refine callF s1 ⟨.refl _, trivial⟩ (by trivial) rfl ?_ | ((repeat (refine ⟨by kernel_rfl, ?_⟩; (conv => whnf))); refine callF s1 ⟨.refl _, trivial⟩ (by trivial) rfl ?_)
            conv => whnf
            refine splF (by simpa using hl) ?_
            conv => whnf
            refine splF (by simpa using hu) ?_
            conv => whnf
            refine fit64 (by omega) ?_
            conv => whnf
            refine ⟨_, ?_, _, _, _, rfl, .refl _, i + 1, hik, by rw [hb, hcu]; simp [*], rfl, rfl, rfl⟩
            omega
    · obtain rfl : i = p.nc := by omega
      conv => whnf
      refine splF (by simp only [decide_eq_true_eq, decide_eq_false_iff_not, Bool.not_eq_true', Bool.not_eq_false', gt_iff_lt, ge_iff_le] <;> omega) ?_
      conv => whnf
      exact ⟨_, _, _, rfl, .refl _, .inl ⟨rfl, by rw [← hB1, hall], rfl, rfl⟩⟩
  · rw [decide_eq_false hm, Bool.and_false, Bool.false_and]
    have hpc := hp.c
    refine acall_rule env [0, 1, 2, 3, 6, 7, 8, 9, 10, 12, 13, 14, 15, 28, 30, 31, 32, 33, 55, 64, 65, 66, 67, 91] Tryz.func34 rfl rfl rfl rfl ?_
    conv => whnf
    first | refine callF f1 ⟨.refl _, .refl _, trivial⟩ (by trivial) rfl ?_ | ((repeat (refine ⟨by kernel_rfl, ?_⟩; (conv => whnf))); refine callF f1 ⟨.refl _, .refl _, trivial⟩ (by trivial) rfl ?_)
    conv => whnf
    refine splT (by simp; omega) ?_
    conv => whnf
    (repeat (refine ⟨by kernel_rfl, ?_⟩; (conv => whnf)))
    refine ⟨(by (try simp only [true_and, and_true, Nat.sub_zero, Nat.zero_add, Int.toNat_natCast]) <;> omega), ?_⟩
    exact .refl _
end Go.Abs
