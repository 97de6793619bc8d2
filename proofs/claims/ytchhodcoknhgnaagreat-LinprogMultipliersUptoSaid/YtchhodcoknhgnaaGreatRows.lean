/-
  No cell of these rows narrows 'for every input' (looked for: loops, veiled, ifaces, maps, wideKeys, modest, calm, conditions, laid).
  DERIVED. THE GIVEN ROWS OF THIS SEAT. 6 by the template 'for every input the law returns true; each argument reads behind the call as it read before'; 0 by the template 'total and deterministic' (their statements: YtchhodcoknhgnaaGreatTotals.lean).
  GIVEN WITH THE SEED: the statements are not yours to turn. If you find one false, say at which input.
  Laid BY PROGRAM, IN A SANDBOX (cutbox-rows.mjs): the forced cells as the released guide's own fill.sh prints them over the translation 01cddffd37b0c0ae… (all of the seat's roots in one cut). By AI agents, Wed Nov 11 2026. No macro, syntax, notation, axiom, sorry.
-/
import Derived.Test.YtchhodcoknhgnaaGreatChecked
import GoSem.Claim
import GoSem.ClaimJoined
import GoSem.ClaimMapViews
import Derived.JoinedTies
import Derived.KernelRfl
namespace Go.Proofs.YtchhodcoknhgnaaGreat
/- THE CELL 'sum', in the pinned program and in every row, IS THE sha256 OF THE DUMP (.gsa) THAT YtchhodcoknhgnaaGreatProg.lean LOADS. Nothing in Lean hashes anything: it is a label: what it is worth is what the hold of that sum in a sandbox is worth. -/
noncomputable def Tryz.pinned : Pinned := { name := "ytchhodcoknhgnaagreat", sum := "01cddffd37b0c0ae433072545cb11cfe424fda57ac9606861cffecca2d30de86", checked := Tryz.checked }
namespace Rows
def none {H : Type} : Left H := { results := [], args := [] }

/-- 'gridmarketlaw11.LinprogMultipliers': WHATEVER THE INPUT: true; the input reads as it did. -/
def linprogMultipliersSpec : ChangeSpec := { name := "linprogMultipliers", fn := fun _ => fun
  | [d1, d2, d3, d4] => { results := [.lit (.bool true)], args := [d1, d2, d3, d4] }
  | _ => none }
def linprogMultipliersRow : OpenClaim := { program := "ytchhodcoknhgnaagreat", sum := "01cddffd37b0c0ae433072545cb11cfe424fda57ac9606861cffecca2d30de86", func := "gridmarket/gridmarketlaw11.LinprogMultipliers", spec := "linprogMultipliers", apart := false }
def LinprogMultipliersSaid : Prop := linprogMultipliersRow.holds Tryz.pinned (OpenSpec.ofChange linprogMultipliersSpec)

/-- ITS FALSE NEIGHBOUR: 'it returns false'. Refute it at one input. -/
def linprogMultipliersWrong : ChangeSpec := { name := "linprogMultipliers", fn := fun _ => fun
  | [d1, d2, d3, d4] => { results := [.lit (.bool false)], args := [d1, d2, d3, d4] }
  | _ => none }
def LinprogMultipliersWrongFalsely : Prop := linprogMultipliersRow.holds Tryz.pinned (OpenSpec.ofChange linprogMultipliersWrong)

/-- 'gridmarketlaw11.LinprogWeakDuality': WHATEVER THE INPUT: true; the input reads as it did. -/
def linprogWeakDualitySpec : ChangeSpec := { name := "linprogWeakDuality", fn := fun _ => fun
  | [d1, d2, d3, d4, d5] => { results := [.lit (.bool true)], args := [d1, d2, d3, d4, d5] }
  | _ => none }
def linprogWeakDualityRow : OpenClaim := { program := "ytchhodcoknhgnaagreat", sum := "01cddffd37b0c0ae433072545cb11cfe424fda57ac9606861cffecca2d30de86", func := "gridmarket/gridmarketlaw11.LinprogWeakDuality", spec := "linprogWeakDuality", apart := false }
def LinprogWeakDualitySaid : Prop := linprogWeakDualityRow.holds Tryz.pinned (OpenSpec.ofChange linprogWeakDualitySpec)

/-- ITS FALSE NEIGHBOUR: 'it returns false'. Refute it at one input. -/
def linprogWeakDualityWrong : ChangeSpec := { name := "linprogWeakDuality", fn := fun _ => fun
  | [d1, d2, d3, d4, d5] => { results := [.lit (.bool false)], args := [d1, d2, d3, d4, d5] }
  | _ => none }
def LinprogWeakDualityWrongFalsely : Prop := linprogWeakDualityRow.holds Tryz.pinned (OpenSpec.ofChange linprogWeakDualityWrong)

/-- 'gridmarketlaw11.LinprogConvex': WHATEVER THE INPUT: true; the input reads as it did. -/
def linprogConvexSpec : ChangeSpec := { name := "linprogConvex", fn := fun _ => fun
  | [d1, d2, d3, d4] => { results := [.lit (.bool true)], args := [d1, d2, d3, d4] }
  | _ => none }
def linprogConvexRow : OpenClaim := { program := "ytchhodcoknhgnaagreat", sum := "01cddffd37b0c0ae433072545cb11cfe424fda57ac9606861cffecca2d30de86", func := "gridmarket/gridmarketlaw11.LinprogConvex", spec := "linprogConvex", apart := false }
def LinprogConvexSaid : Prop := linprogConvexRow.holds Tryz.pinned (OpenSpec.ofChange linprogConvexSpec)

/-- ITS FALSE NEIGHBOUR: 'it returns false'. Refute it at one input. -/
def linprogConvexWrong : ChangeSpec := { name := "linprogConvex", fn := fun _ => fun
  | [d1, d2, d3, d4] => { results := [.lit (.bool false)], args := [d1, d2, d3, d4] }
  | _ => none }
def LinprogConvexWrongFalsely : Prop := linprogConvexRow.holds Tryz.pinned (OpenSpec.ofChange linprogConvexWrong)

/-- 'gridmarketlaw11.LinprogPoints': WHATEVER THE INPUT: true; the input reads as it did. -/
def linprogPointsSpec : ChangeSpec := { name := "linprogPoints", fn := fun _ => fun
  | [d1, d2, d3, d4] => { results := [.lit (.bool true)], args := [d1, d2, d3, d4] }
  | _ => none }
def linprogPointsRow : OpenClaim := { program := "ytchhodcoknhgnaagreat", sum := "01cddffd37b0c0ae433072545cb11cfe424fda57ac9606861cffecca2d30de86", func := "gridmarket/gridmarketlaw11.LinprogPoints", spec := "linprogPoints", apart := false }
def LinprogPointsSaid : Prop := linprogPointsRow.holds Tryz.pinned (OpenSpec.ofChange linprogPointsSpec)

/-- ITS FALSE NEIGHBOUR: 'it returns false'. Refute it at one input. -/
def linprogPointsWrong : ChangeSpec := { name := "linprogPoints", fn := fun _ => fun
  | [d1, d2, d3, d4] => { results := [.lit (.bool false)], args := [d1, d2, d3, d4] }
  | _ => none }
def LinprogPointsWrongFalsely : Prop := linprogPointsRow.holds Tryz.pinned (OpenSpec.ofChange linprogPointsWrong)

/-- 'gridmarketlaw11.LinprogMoreRows': WHATEVER THE INPUT: true; the input reads as it did. -/
def linprogMoreRowsSpec : ChangeSpec := { name := "linprogMoreRows", fn := fun _ => fun
  | [d1, d2, d3] => { results := [.lit (.bool true)], args := [d1, d2, d3] }
  | _ => none }
def linprogMoreRowsRow : OpenClaim := { program := "ytchhodcoknhgnaagreat", sum := "01cddffd37b0c0ae433072545cb11cfe424fda57ac9606861cffecca2d30de86", func := "gridmarket/gridmarketlaw11.LinprogMoreRows", spec := "linprogMoreRows", apart := false }
def LinprogMoreRowsSaid : Prop := linprogMoreRowsRow.holds Tryz.pinned (OpenSpec.ofChange linprogMoreRowsSpec)

/-- ITS FALSE NEIGHBOUR: 'it returns false'. Refute it at one input. -/
def linprogMoreRowsWrong : ChangeSpec := { name := "linprogMoreRows", fn := fun _ => fun
  | [d1, d2, d3] => { results := [.lit (.bool false)], args := [d1, d2, d3] }
  | _ => none }
def LinprogMoreRowsWrongFalsely : Prop := linprogMoreRowsRow.holds Tryz.pinned (OpenSpec.ofChange linprogMoreRowsWrong)

/-- 'gridmarketlaw11.LinprogChanges': WHATEVER THE INPUT: true; the input reads as it did. -/
def linprogChangesSpec : ChangeSpec := { name := "linprogChanges", fn := fun _ => fun
  | [d1, d2, d3] => { results := [.lit (.bool true)], args := [d1, d2, d3] }
  | _ => none }
def linprogChangesRow : OpenClaim := { program := "ytchhodcoknhgnaagreat", sum := "01cddffd37b0c0ae433072545cb11cfe424fda57ac9606861cffecca2d30de86", func := "gridmarket/gridmarketlaw11.LinprogChanges", spec := "linprogChanges", apart := false }
def LinprogChangesSaid : Prop := linprogChangesRow.holds Tryz.pinned (OpenSpec.ofChange linprogChangesSpec)

/-- ITS FALSE NEIGHBOUR: 'it returns false'. Refute it at one input. -/
def linprogChangesWrong : ChangeSpec := { name := "linprogChanges", fn := fun _ => fun
  | [d1, d2, d3] => { results := [.lit (.bool false)], args := [d1, d2, d3] }
  | _ => none }
def LinprogChangesWrongFalsely : Prop := linprogChangesRow.holds Tryz.pinned (OpenSpec.ofChange linprogChangesWrong)

/- THE SECOND FORM. 'bulk': how many values and letters a reading holds, each counted each time it is reached (what is shared counts as often as it is met; a slice's spare places count too). A statement '..UptoSaid' is the law's where the arguments, and the package variables that the reading takes, are together of bulk at most 1048576: NARROWER than '..Said'. Prove '..Said' where nothing that the law and all that it calls make is longer than what came in: it says more and counts as full. Else prove '..UptoSaid'. A law counts once. -/
mutual
def uptoBulk {H : Type} : DataW H → Nat
  | .lit (.string bytes) => bytes.length + 1
  | .lit _ => 1
  | .nil => 1
  | .ptr d => uptoBulk d + 1
  | .slice elems spare => uptoBulkAll elems + uptoBulkAll spare + 1
  | .agg parts => uptoBulkAll parts + 1
  | .iface _ d => uptoBulk d + 1
  | .map entries => uptoBulkEntries entries + 1
  | .held _ => 1
def uptoBulkAll {H : Type} : List (DataW H) → Nat
  | [] => 0
  | d :: r => uptoBulk d + uptoBulkAll r
def uptoBulkEntries {H : Type} : List (Lit × DataW H) → Nat
  | [] => 0
  | x :: r => uptoBulkEntry x + uptoBulkEntries r
def uptoBulkEntry {H : Type} : Lit × DataW H → Nat
  | (.string bytes, d) => bytes.length + uptoBulk d + 1
  | (_, d) => uptoBulk d + 1
 end
def uptoSmall : (H : Type) → List (DataW H) → Bool := fun _ ds => decide (uptoBulkAll ds ≤ 1048576)
def OpenSpec.upto (s : _root_.Go.ChangeSpec) : _root_.Go.OpenSpec := { _root_.Go.OpenSpec.ofChange s with cond := some uptoSmall }

/-- 'gridmarketlaw11.LinprogMultipliers', WHERE WHAT IT READS IS OF BULK AT MOST 1048576: true; the input reads as it did. -/
def linprogMultipliersUptoRow : OpenClaim := { program := "ytchhodcoknhgnaagreat", sum := "01cddffd37b0c0ae433072545cb11cfe424fda57ac9606861cffecca2d30de86", func := "gridmarket/gridmarketlaw11.LinprogMultipliers", spec := "linprogMultipliers", apart := false, narrowed := true }
def LinprogMultipliersUptoSaid : Prop := linprogMultipliersUptoRow.holds Tryz.pinned (OpenSpec.upto linprogMultipliersSpec)

/-- 'gridmarketlaw11.LinprogWeakDuality', WHERE WHAT IT READS IS OF BULK AT MOST 1048576: true; the input reads as it did. -/
def linprogWeakDualityUptoRow : OpenClaim := { program := "ytchhodcoknhgnaagreat", sum := "01cddffd37b0c0ae433072545cb11cfe424fda57ac9606861cffecca2d30de86", func := "gridmarket/gridmarketlaw11.LinprogWeakDuality", spec := "linprogWeakDuality", apart := false, narrowed := true }
def LinprogWeakDualityUptoSaid : Prop := linprogWeakDualityUptoRow.holds Tryz.pinned (OpenSpec.upto linprogWeakDualitySpec)

/-- 'gridmarketlaw11.LinprogConvex', WHERE WHAT IT READS IS OF BULK AT MOST 1048576: true; the input reads as it did. -/
def linprogConvexUptoRow : OpenClaim := { program := "ytchhodcoknhgnaagreat", sum := "01cddffd37b0c0ae433072545cb11cfe424fda57ac9606861cffecca2d30de86", func := "gridmarket/gridmarketlaw11.LinprogConvex", spec := "linprogConvex", apart := false, narrowed := true }
def LinprogConvexUptoSaid : Prop := linprogConvexUptoRow.holds Tryz.pinned (OpenSpec.upto linprogConvexSpec)

/-- 'gridmarketlaw11.LinprogPoints', WHERE WHAT IT READS IS OF BULK AT MOST 1048576: true; the input reads as it did. -/
def linprogPointsUptoRow : OpenClaim := { program := "ytchhodcoknhgnaagreat", sum := "01cddffd37b0c0ae433072545cb11cfe424fda57ac9606861cffecca2d30de86", func := "gridmarket/gridmarketlaw11.LinprogPoints", spec := "linprogPoints", apart := false, narrowed := true }
def LinprogPointsUptoSaid : Prop := linprogPointsUptoRow.holds Tryz.pinned (OpenSpec.upto linprogPointsSpec)

/-- 'gridmarketlaw11.LinprogMoreRows', WHERE WHAT IT READS IS OF BULK AT MOST 1048576: true; the input reads as it did. -/
def linprogMoreRowsUptoRow : OpenClaim := { program := "ytchhodcoknhgnaagreat", sum := "01cddffd37b0c0ae433072545cb11cfe424fda57ac9606861cffecca2d30de86", func := "gridmarket/gridmarketlaw11.LinprogMoreRows", spec := "linprogMoreRows", apart := false, narrowed := true }
def LinprogMoreRowsUptoSaid : Prop := linprogMoreRowsUptoRow.holds Tryz.pinned (OpenSpec.upto linprogMoreRowsSpec)

/-- 'gridmarketlaw11.LinprogChanges', WHERE WHAT IT READS IS OF BULK AT MOST 1048576: true; the input reads as it did. -/
def linprogChangesUptoRow : OpenClaim := { program := "ytchhodcoknhgnaagreat", sum := "01cddffd37b0c0ae433072545cb11cfe424fda57ac9606861cffecca2d30de86", func := "gridmarket/gridmarketlaw11.LinprogChanges", spec := "linprogChanges", apart := false, narrowed := true }
def LinprogChangesUptoSaid : Prop := linprogChangesUptoRow.holds Tryz.pinned (OpenSpec.upto linprogChangesSpec)

end Rows
end Go.Proofs.YtchhodcoknhgnaaGreat
