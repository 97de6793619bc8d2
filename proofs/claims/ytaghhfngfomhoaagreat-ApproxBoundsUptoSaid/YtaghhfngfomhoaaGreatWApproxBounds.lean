/- ApproxBounds: whatever comes in, if what it reads is of bulk at most 1048576: the law answers true, and the input reads as it did. -/
import Derived.Test.YtaghhfngfomhoaaGreatPk4
import Derived.Test.YtaghhfngfomhoaaGreatRows
set_option linter.unusedVariables false
namespace Go.Proofs.YtaghhfngfomhoaaGreat.approxBounds
open Go.ChangeShapes Go.WideShapes Go.ChangeAt Go.RowKit Go.Abs

theorem own : ownKnob Tryz.prog.godebug = none := by kernel_rfl

theorem all_sum {H : Type} (l : List (DataW H)) : Rows.uptoBulkAll l = (l.map Rows.uptoBulk).sum := by
  induction l with
  | nil => simp [Rows.uptoBulkAll]
  | cons x r ih => simp [Rows.uptoBulkAll, ih]
theorem bulk {H : Type} : IsBulk (H := H) Rows.uptoBulk where
  pos d := by cases d with | lit l => cases l <;> simp [Rows.uptoBulk] | _ => simp [Rows.uptoBulk]
  str bs := by simp [Rows.uptoBulk]
  slice elems spare := by simp only [Rows.uptoBulk, all_sum]; omega
  agg parts := by simp only [Rows.uptoBulk, all_sum]; omega
theorem part_le {H : Type} {d : DataW H} : ∀ {r : List (DataW H)}, d ∈ r → Rows.uptoBulk d ≤ Rows.uptoBulkAll r
  | [], h => by cases h
  | y :: r, h => by
    simp only [Rows.uptoBulkAll]
    rcases List.mem_cons.1 h with rfl | h
    · omega
    · have := part_le h; omega
theorem small {H : Type} {d : DataW H} {l : List (DataW H)} (hk : Rows.uptoSmall H l = true) (hd : d ∈ l) : Rows.uptoBulk d ≤ 1048576 := by
  have hb : Rows.uptoBulkAll l ≤ 1048576 := of_decide_eq_true hk
  have hpart := part_le hd
  omega

set_option maxRecDepth 100000 in
theorem contract (H : Type) (enc : TypeId × Value → H) (W : World) (base : Nat) (args : Array Value) (ds gs : List (DataW H)) (before : List MemPlace)
    (hval : ∀ (j : Nat) t v, Tryz.f4.params[j]? = some t → args[j]? = some v → Value.okWide Tryz.prog W .any base t v)
    (hW : DataW.Whole enc Tryz.prog Tryz.f4.params.toList Rows.approxBoundsSpec.vars false W args.toList ds gs before) (hk : Rows.uptoSmall H (ds ++ gs) = true) :
    Calls Tryz.prog 4 args W fun e W' => ∃ v, e = .returned v ∧ Rows.approxBoundsSpec.post enc Tryz.prog Tryz.f4 false true false false W args v W' := by
  have hW' := hW
  have hlt := hW.lt
  obtain ⟨p, q, hA0, hV, rfl, hfz, hnd⟩ := hW
  have hA : DataW.TrodAll enc Tryz.prog W 0 (fun _ => true) true Tryz.f4.params.toList args.toList ds p := hA0
  rw [Tryz.params4] at hA hval
  obtain ⟨v0, vs0, d0, ds0, p0, q0, hargs, rfl, rfl, h0, r0⟩ := trodAll_cons hA
  obtain ⟨v1, vs1, d1, ds1, p1, q1, rfl, rfl, rfl, h1, r1⟩ := trodAll_cons r0
  obtain ⟨rfl, rfl, rfl⟩ := trodAll_nil r1
  obtain rfl : args = #[v0, v1] := by cases args; simp_all
  obtain ⟨rfl, rfl⟩ := trodVars_none hV
  have hb0 := small hk (d := d0) (by simp)
  obtain ⟨c0, f0, rg0⟩ := paramA_in (T := tab) (dp := 9) env.tab bulk (t := 29) rfl rfl (by kernel_rfl) (hval 0 29 v0 rfl rfl) h0
  obtain ⟨x0, z0, hR0, le0⟩ := par_Rat f0
  have hb1 := small hk (d := d1) (by simp)
  obtain ⟨c1, f1, rg1⟩ := param1_in (T := tab) (dp := 9) env.tab bulk (t := 37) rfl rfl (by kernel_rfl) (hval 1 37 v1 rfl rfl) h1
  obtain ⟨i1, hi1, le1⟩ := par_int8 f1
  exact law_post (ApproxBounds_ok (hR0.mono hb0) hi1 (Nat.le_refl _)) (by kernel_rfl) (by kernel_rfl) (by kernel_rfl) Tryz.underlying4 rfl rfl rfl rfl hW' ⟨le0 _ _ _ rg0, le1 _ _ _ (.f rg1), trivial⟩

set_option maxRecDepth 100000 in
theorem lifted (os : Os) (started : os.Started) (H : Type) (enc : TypeId × Value → H) (F : Stop.Interp) :
    ReturnsInHanded {} Tryz.checked os 4 .any ((Rows.OpenSpec.upto Rows.approxBoundsSpec).pre6 enc Tryz.prog Tryz.f4 Rows.approxBoundsUptoRow.domain false) (((Rows.OpenSpec.upto Rows.approxBoundsSpec).at F).post enc Tryz.prog Tryz.f4 false true false false) := by
  refine returnsInHanded_of_cond (C := Tryz.checked) (s := Rows.OpenSpec.upto Rows.approxBoundsSpec) (k := Rows.uptoSmall) rfl own started (by kernel_rfl) Tryz.func4
    (OpenSpec.witness (enc := enc) (C := Tryz.checked) (s := Rows.OpenSpec.upto Rows.approxBoundsSpec) (k := Rows.uptoSmall) rfl false ⟨#[], #[.agg #[.bool false, .slice none 0 0, .slice none 0 0], .int .i8 0], []⟩ 8 (by kernel_rfl) (by kernel_rfl) (by kernel_rfl)
      (x := ([.agg [.agg [.lit (.bool false), .nil], .nil], .lit (.int .i8 0)], [], [])) (by kernel_rfl) rfl (by kernel_rfl)) ?_
  intro W base args ds gs before hval hW _ hk _
  exact contract H enc W base args ds gs before hval hW hk

theorem proved : Rows.ApproxBoundsUptoSaid :=
  OpenClaim.holds_of_cond 4 Tryz.f4 rfl rfl rfl rfl rfl rfl rfl ⟨rfl, rfl, rfl, rfl, rfl⟩ rfl rfl rfl rfl rfl (by kernel_rfl) Tryz.func4 (by kernel_rfl)
    (of_decide_eq_true (by kernel_rfl)) (by unfold Func.isWrapper; first | (rw [if_pos (by decide +kernel)]; kernel_rfl) | (rw [if_neg (by decide +kernel)]; exact ⟨rfl, rfl⟩))
    (fun os started H enc _ F => lifted os started H enc F)
end Go.Proofs.YtaghhfngfomhoaaGreat.approxBounds
