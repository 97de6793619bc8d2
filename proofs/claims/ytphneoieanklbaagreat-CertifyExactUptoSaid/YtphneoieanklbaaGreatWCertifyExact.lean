/- CertifyExact: whatever comes in, if what it reads is of bulk at most 1048576: the law answers true, and the input reads as it did. -/
import Derived.Test.YtphneoieanklbaaGreatPr6
import Derived.Test.YtphneoieanklbaaGreatRows
set_option linter.unusedVariables false
namespace Go.Proofs.YtphneoieanklbaaGreat.certifyExact
open Go.ChangeShapes Go.WideShapes Go.ChangeAt Go.RowKit Go.Abs

theorem own : ownKnob Tryz.prog.godebug = none := by kernel_rfl

theorem all_sum {H : Type} (l : List (DataW H)) : Rows.uptoBulkAll l = (l.map Rows.uptoBulk).sum := by
  induction l with
  | nil => simp [Rows.uptoBulkAll]
  | cons x r ih => simp [Rows.uptoBulkAll, ih]
theorem bulk {H : Type} : IsBulk (H := H) Rows.uptoBulk where
  pos d := by cases d with | lit l => cases l <;> simp [Rows.uptoBulk] | _ => simp [Rows.uptoBulk]
  str bs := by simp [Rows.uptoBulk]
  slice elems spare := by simp only [Rows.uptoBulk, all_sum]; omega
  agg parts := by simp only [Rows.uptoBulk, all_sum]; omega
theorem part_le {H : Type} {d : DataW H} : ∀ {r : List (DataW H)}, d ∈ r → Rows.uptoBulk d ≤ Rows.uptoBulkAll r
  | [], h => by cases h
  | y :: r, h => by
    simp only [Rows.uptoBulkAll]
    rcases List.mem_cons.1 h with rfl | h
    · omega
    · have := part_le h; omega
theorem small {H : Type} {d : DataW H} {l : List (DataW H)} (hk : Rows.uptoSmall H l = true) (hd : d ∈ l) : Rows.uptoBulk d ≤ 1048576 := by
  have hb : Rows.uptoBulkAll l ≤ 1048576 := of_decide_eq_true hk
  have hpart := part_le hd
  omega

set_option maxRecDepth 100000 in
theorem contract (H : Type) (enc : TypeId × Value → H) (W : World) (base : Nat) (args : Array Value) (ds gs : List (DataW H)) (before : List MemPlace)
    (hval : ∀ (j : Nat) t v, Tryz.f8.params[j]? = some t → args[j]? = some v → Value.okWide Tryz.prog W .any base t v)
    (hW : DataW.Whole enc Tryz.prog Tryz.f8.params.toList Rows.certifyExactSpec.vars false W args.toList ds gs before) (hk : Rows.uptoSmall H (ds ++ gs) = true) :
    Calls Tryz.prog 8 args W fun e W' => ∃ v, e = .returned v ∧ Rows.certifyExactSpec.post enc Tryz.prog Tryz.f8 false true false false W args v W' := by
  have hW' := hW
  have hlt := hW.lt
  obtain ⟨p, q, hA0, hV, rfl, hfz, hnd⟩ := hW
  have hA : DataW.TrodAll enc Tryz.prog W 0 (fun _ => true) true Tryz.f8.params.toList args.toList ds p := hA0
  rw [Tryz.params8] at hA hval
  obtain ⟨v0, vs0, d0, ds0, p0, q0, hargs, rfl, rfl, h0, r0⟩ := trodAll_cons hA
  obtain ⟨v1, vs1, d1, ds1, p1, q1, rfl, rfl, rfl, h1, r1⟩ := trodAll_cons r0
  obtain ⟨v2, vs2, d2, ds2, p2, q2, rfl, rfl, rfl, h2, r2⟩ := trodAll_cons r1
  obtain ⟨v3, vs3, d3, ds3, p3, q3, rfl, rfl, rfl, h3, r3⟩ := trodAll_cons r2
  obtain ⟨v4, vs4, d4, ds4, p4, q4, rfl, rfl, rfl, h4, r4⟩ := trodAll_cons r3
  obtain ⟨v5, vs5, d5, ds5, p5, q5, rfl, rfl, rfl, h5, r5⟩ := trodAll_cons r4
  obtain ⟨v6, vs6, d6, ds6, p6, q6, rfl, rfl, rfl, h6, r6⟩ := trodAll_cons r5
  obtain ⟨v7, vs7, d7, ds7, p7, q7, rfl, rfl, rfl, h7, r7⟩ := trodAll_cons r6
  obtain ⟨rfl, rfl, rfl⟩ := trodAll_nil r7
  obtain rfl : args = #[v0, v1, v2, v3, v4, v5, v6, v7] := by cases args; simp_all
  obtain ⟨rfl, rfl⟩ := trodVars_none hV
  have hb0 := small hk (d := d0) (by simp)
  obtain ⟨c0, f0, rg0⟩ := paramA_in (T := tab) (dp := 9) env.tab bulk (t := 25) rfl rfl (by kernel_rfl) (hval 0 25 v0 rfl rfl) h0
  obtain ⟨pr0, hP0, le0⟩ := par_Prog f0 hb0
  have hb1 := small hk (d := d1) (by simp)
  obtain ⟨c1, f1, rg1⟩ := param1_in (T := tab) (dp := 9) env.tab bulk (t := 26) rfl rfl (by kernel_rfl) (hval 1 26 v1 rfl rfl) h1
  obtain ⟨x1, n1, hX1, hn1, le1⟩ := par_Rats f1 hb1
  have hb2 := small hk (d := d2) (by simp)
  obtain ⟨c2, f2, rg2⟩ := param1_in (T := tab) (dp := 9) env.tab bulk (t := 26) rfl rfl (by kernel_rfl) (hval 2 26 v2 rfl rfl) h2
  obtain ⟨x2, n2, hX2, hn2, le2⟩ := par_Rats f2 hb2
  have hb3 := small hk (d := d3) (by simp)
  obtain ⟨c3, f3, rg3⟩ := param1_in (T := tab) (dp := 9) env.tab bulk (t := 26) rfl rfl (by kernel_rfl) (hval 3 26 v3 rfl rfl) h3
  obtain ⟨x3, n3, hX3, hn3, le3⟩ := par_Rats f3 hb3
  have hb4 := small hk (d := d4) (by simp)
  obtain ⟨c4, f4, rg4⟩ := paramA_in (T := tab) (dp := 9) env.tab bulk (t := 34) rfl rfl (by kernel_rfl) (hval 4 34 v4 rfl rfl) h4
  obtain ⟨rr4, hR4, le4⟩ := par_RR f4 hb4
  have hb5 := small hk (d := d5) (by simp)
  obtain ⟨c5, f5, rg5⟩ := paramA_in (T := tab) (dp := 9) env.tab bulk (t := 69) rfl rfl (by kernel_rfl) (hval 5 69 v5 rfl rfl) h5
  obtain ⟨so5, hS5, le5⟩ := par_Sol f5 hb5
  have hb6 := small hk (d := d6) (by simp)
  obtain ⟨c6, f6, rg6⟩ := param1_in (T := tab) (dp := 9) env.tab bulk (t := 42) rfl rfl (by kernel_rfl) (hval 6 42 v6 rfl rfl) h6
  obtain ⟨g6, n6, hg6, hn6, le6⟩ := par_ints f6
  have hb7 := small hk (d := d7) (by simp)
  obtain ⟨c7, f7, rg7⟩ := param1_in (T := tab) (dp := 9) env.tab bulk (t := 42) rfl rfl (by kernel_rfl) (hval 7 42 v7 rfl rfl) h7
  obtain ⟨g7, n7, hg7, hn7, le7⟩ := par_ints f7
  exact law_post (CertifyExact_ok hP0 hX1 hX2 hX3 hR4.1 hR4.2 hS5 g6 g7 n6 n7 (by omega) (by omega)) (by kernel_rfl) (by kernel_rfl) (by kernel_rfl) Tryz.underlying4 rfl rfl rfl rfl hW' ⟨le0 _ _ _ rg0, le1 _ _ _ (.f rg1), le2 _ _ _ (.f rg2), le3 _ _ _ (.f rg3), le4 _ _ _ rg4, le5 _ _ _ rg5, le6 _ _ _ (.f rg6), le7 _ _ _ (.f rg7), trivial⟩

set_option maxRecDepth 100000 in
theorem lifted (os : Os) (started : os.Started) (H : Type) (enc : TypeId × Value → H) (F : Stop.Interp) :
    ReturnsInHanded {} Tryz.checked os 8 .any ((Rows.OpenSpec.upto Rows.certifyExactSpec).pre6 enc Tryz.prog Tryz.f8 Rows.certifyExactUptoRow.domain false) (((Rows.OpenSpec.upto Rows.certifyExactSpec).at F).post enc Tryz.prog Tryz.f8 false true false false) := by
  refine returnsInHanded_of_cond (C := Tryz.checked) (s := Rows.OpenSpec.upto Rows.certifyExactSpec) (k := Rows.uptoSmall) rfl own started (by kernel_rfl) Tryz.func8
    (OpenSpec.witness (enc := enc) (C := Tryz.checked) (s := Rows.OpenSpec.upto Rows.certifyExactSpec) (k := Rows.uptoSmall) rfl false ⟨#[], #[.agg #[.slice none 0 0, .slice none 0 0], .slice none 0 0, .slice none 0 0, .slice none 0 0, .agg #[.bool false, .slice none 0 0, .slice none 0 0], .agg #[.int .i64 0, .bool false, .slice none 0 0, .slice none 0 0, .slice none 0 0, .slice none 0 0, .slice none 0 0, .slice none 0 0, .slice none 0 0], .slice none 0 0, .slice none 0 0], []⟩ 8 (by kernel_rfl) (by kernel_rfl) (by kernel_rfl)
      (x := ([.agg [.nil, .nil], .nil, .nil, .nil, .agg [.agg [.lit (.bool false), .nil], .nil], .agg [.lit (.int .i64 0), .agg [.agg [.lit (.bool false), .nil], .nil], .nil, .nil, .nil, .agg [.nil, .nil]], .nil, .nil], [], [])) (by kernel_rfl) rfl (by kernel_rfl)) ?_
  intro W base args ds gs before hval hW _ hk _
  exact contract H enc W base args ds gs before hval hW hk

theorem proved : Rows.CertifyExactUptoSaid :=
  OpenClaim.holds_of_cond 8 Tryz.f8 rfl rfl rfl rfl rfl rfl rfl ⟨rfl, rfl, rfl, rfl, rfl⟩ rfl rfl rfl rfl rfl (by kernel_rfl) Tryz.func8 (by kernel_rfl)
    (of_decide_eq_true (by kernel_rfl)) (by unfold Func.isWrapper; first | (rw [if_pos (by decide +kernel)]; kernel_rfl) | (rw [if_neg (by decide +kernel)]; exact ⟨rfl, rfl⟩))
    (fun os started H enc _ F => lifted os started H enc F)
end Go.Proofs.YtphneoieanklbaaGreat.certifyExact
