/- CertifyOneStatus: whatever comes in, if what it reads is of bulk at most 1048576: the law answers true, and the input reads as it did. -/
import Derived.Test.YtphneoieanklbaaGreatPq6
import Derived.Test.YtphneoieanklbaaGreatRows
set_option linter.unusedVariables false
namespace Go.Proofs.YtphneoieanklbaaGreat.certifyOneStatus
open Go.ChangeShapes Go.WideShapes Go.ChangeAt Go.RowKit Go.Abs

theorem own : ownKnob Tryz.prog.godebug = none := by kernel_rfl

theorem all_sum {H : Type} (l : List (DataW H)) : Rows.uptoBulkAll l = (l.map Rows.uptoBulk).sum := by
  induction l with
  | nil => simp [Rows.uptoBulkAll]
  | cons x r ih => simp [Rows.uptoBulkAll, ih]
theorem bulk {H : Type} : IsBulk (H := H) Rows.uptoBulk where
  pos d := by cases d with | lit l => cases l <;> simp [Rows.uptoBulk] | _ => simp [Rows.uptoBulk]
  str bs := by simp [Rows.uptoBulk]
  slice elems spare := by simp only [Rows.uptoBulk, all_sum]; omega
  agg parts := by simp only [Rows.uptoBulk, all_sum]; omega
theorem part_le {H : Type} {d : DataW H} : ∀ {r : List (DataW H)}, d ∈ r → Rows.uptoBulk d ≤ Rows.uptoBulkAll r
  | [], h => by cases h
  | y :: r, h => by
    simp only [Rows.uptoBulkAll]
    rcases List.mem_cons.1 h with rfl | h
    · omega
    · have := part_le h; omega
theorem small {H : Type} {d : DataW H} {l : List (DataW H)} (hk : Rows.uptoSmall H l = true) (hd : d ∈ l) : Rows.uptoBulk d ≤ 1048576 := by
  have hb : Rows.uptoBulkAll l ≤ 1048576 := of_decide_eq_true hk
  have hpart := part_le hd
  omega

set_option maxRecDepth 100000 in
theorem contract (H : Type) (enc : TypeId × Value → H) (W : World) (base : Nat) (args : Array Value) (ds gs : List (DataW H)) (before : List MemPlace)
    (hval : ∀ (j : Nat) t v, Tryz.f9.params[j]? = some t → args[j]? = some v → Value.okWide Tryz.prog W .any base t v)
    (hW : DataW.Whole enc Tryz.prog Tryz.f9.params.toList Rows.certifyOneStatusSpec.vars false W args.toList ds gs before) (hk : Rows.uptoSmall H (ds ++ gs) = true) :
    Calls Tryz.prog 9 args W fun e W' => ∃ v, e = .returned v ∧ Rows.certifyOneStatusSpec.post enc Tryz.prog Tryz.f9 false true false false W args v W' := by
  have hW' := hW
  have hlt := hW.lt
  obtain ⟨p, q, hA0, hV, rfl, hfz, hnd⟩ := hW
  have hA : DataW.TrodAll enc Tryz.prog W 0 (fun _ => true) true Tryz.f9.params.toList args.toList ds p := hA0
  rw [Tryz.params9] at hA hval
  obtain ⟨v0, vs0, d0, ds0, p0, q0, hargs, rfl, rfl, h0, r0⟩ := trodAll_cons hA
  obtain ⟨v1, vs1, d1, ds1, p1, q1, rfl, rfl, rfl, h1, r1⟩ := trodAll_cons r0
  obtain ⟨v2, vs2, d2, ds2, p2, q2, rfl, rfl, rfl, h2, r2⟩ := trodAll_cons r1
  obtain ⟨rfl, rfl, rfl⟩ := trodAll_nil r2
  obtain rfl : args = #[v0, v1, v2] := by cases args; simp_all
  obtain ⟨rfl, rfl⟩ := trodVars_none hV
  have hb0 := small hk (d := d0) (by simp)
  obtain ⟨c0, f0, rg0⟩ := paramA_in (T := tab) (dp := 9) env.tab bulk (t := 25) rfl rfl (by kernel_rfl) (hval 0 25 v0 rfl rfl) h0
  obtain ⟨pr0, hP0, le0⟩ := par_Prog f0 hb0
  have hb1 := small hk (d := d1) (by simp)
  obtain ⟨c1, f1, rg1⟩ := paramA_in (T := tab) (dp := 9) env.tab bulk (t := 69) rfl rfl (by kernel_rfl) (hval 1 69 v1 rfl rfl) h1
  obtain ⟨so1, hS1, le1⟩ := par_Sol f1 hb1
  have hb2 := small hk (d := d2) (by simp)
  obtain ⟨c2, f2, rg2⟩ := paramA_in (T := tab) (dp := 9) env.tab bulk (t := 69) rfl rfl (by kernel_rfl) (hval 2 69 v2 rfl rfl) h2
  obtain ⟨so2, hS2, le2⟩ := par_Sol f2 hb2
  exact law_post (CertifyOneStatus_ok hP0 hS1 hS2) (by kernel_rfl) (by kernel_rfl) (by kernel_rfl) Tryz.underlying4 rfl rfl rfl rfl hW' ⟨le0 _ _ _ rg0, le1 _ _ _ rg1, le2 _ _ _ rg2, trivial⟩

set_option maxRecDepth 100000 in
theorem lifted (os : Os) (started : os.Started) (H : Type) (enc : TypeId × Value → H) (F : Stop.Interp) :
    ReturnsInHanded {} Tryz.checked os 9 .any ((Rows.OpenSpec.upto Rows.certifyOneStatusSpec).pre6 enc Tryz.prog Tryz.f9 Rows.certifyOneStatusUptoRow.domain false) (((Rows.OpenSpec.upto Rows.certifyOneStatusSpec).at F).post enc Tryz.prog Tryz.f9 false true false false) := by
  refine returnsInHanded_of_cond (C := Tryz.checked) (s := Rows.OpenSpec.upto Rows.certifyOneStatusSpec) (k := Rows.uptoSmall) rfl own started (by kernel_rfl) Tryz.func9
    (OpenSpec.witness (enc := enc) (C := Tryz.checked) (s := Rows.OpenSpec.upto Rows.certifyOneStatusSpec) (k := Rows.uptoSmall) rfl false ⟨#[], #[.agg #[.slice none 0 0, .slice none 0 0], .agg #[.int .i64 0, .bool false, .slice none 0 0, .slice none 0 0, .slice none 0 0, .slice none 0 0, .slice none 0 0, .slice none 0 0, .slice none 0 0], .agg #[.int .i64 0, .bool false, .slice none 0 0, .slice none 0 0, .slice none 0 0, .slice none 0 0, .slice none 0 0, .slice none 0 0, .slice none 0 0]], []⟩ 8 (by kernel_rfl) (by kernel_rfl) (by kernel_rfl)
      (x := ([.agg [.nil, .nil], .agg [.lit (.int .i64 0), .agg [.agg [.lit (.bool false), .nil], .nil], .nil, .nil, .nil, .agg [.nil, .nil]], .agg [.lit (.int .i64 0), .agg [.agg [.lit (.bool false), .nil], .nil], .nil, .nil, .nil, .agg [.nil, .nil]]], [], [])) (by kernel_rfl) rfl (by kernel_rfl)) ?_
  intro W base args ds gs before hval hW _ hk _
  exact contract H enc W base args ds gs before hval hW hk

theorem proved : Rows.CertifyOneStatusUptoSaid :=
  OpenClaim.holds_of_cond 9 Tryz.f9 rfl rfl rfl rfl rfl rfl rfl ⟨rfl, rfl, rfl, rfl, rfl⟩ rfl rfl rfl rfl rfl (by kernel_rfl) Tryz.func9 (by kernel_rfl)
    (of_decide_eq_true (by kernel_rfl)) (by unfold Func.isWrapper; first | (rw [if_pos (by decide +kernel)]; kernel_rfl) | (rw [if_neg (by decide +kernel)]; exact ⟨rfl, rfl⟩))
    (fun os started H enc _ F => lifted os started H enc F)
end Go.Proofs.YtphneoieanklbaaGreat.certifyOneStatus
