/-
  No cell of these rows narrows 'for every input' (looked for: loops, veiled, ifaces, maps, wideKeys, modest, calm, conditions, laid).
  DERIVED. THE GIVEN ROWS OF THIS SEAT. 11 by the template 'for every input the law returns true; each argument reads behind the call as it read before'; 0 by the template 'total and deterministic' (their statements: YtmlhfccpnehaeaaTotals.lean).
  GIVEN WITH THE SEED: the statements are not yours to turn. If you find one false, say at which input.
  Laid BY PROGRAM, IN A SANDBOX (cutbox-rows.mjs): the forced cells as the released guide's own fill.sh prints them over the translation 791540f24f2aae90… (all of the seat's roots in one cut). By AI agents, Wed Nov 11 2026. No macro, syntax, notation, axiom, sorry.
-/
import Derived.Test.YtmlhfccpnehaeaaChecked
import GoSem.Claim
import GoSem.ClaimJoined
import GoSem.ClaimMapViews
import Derived.JoinedTies
import Derived.KernelRfl
namespace Go.Proofs.Ytmlhfccpnehaeaa
/- THE CELL 'sum', in the pinned program and in every row, IS THE sha256 OF THE DUMP (.gsa) THAT YtmlhfccpnehaeaaProg.lean LOADS. Nothing in Lean hashes anything: it is a label: what it is worth is what the hold of that sum in a sandbox is worth. -/
noncomputable def Try.pinned : Pinned := { name := "ytmlhfccpnehaeaa", sum := "791540f24f2aae90729a6e032373adc19e747c8391132ddbab1e794c7ffc29b8", checked := Try.checked }
namespace Rows
def none {H : Type} : Left H := { results := [], args := [] }

/-- 'gridmarketlaw01.NaturalValues': WHATEVER THE INPUT: true; the input reads as it did. -/
def naturalValuesSpec : ChangeSpec := { name := "naturalValues", fn := fun _ => fun
  | [d1, d2, d3] => { results := [.lit (.bool true)], args := [d1, d2, d3] }
  | _ => none }
def naturalValuesRow : OpenClaim := { program := "ytmlhfccpnehaeaa", sum := "791540f24f2aae90729a6e032373adc19e747c8391132ddbab1e794c7ffc29b8", func := "gridmarket/gridmarketlaw01.NaturalValues", spec := "naturalValues", apart := false }
def NaturalValuesSaid : Prop := naturalValuesRow.holds Try.pinned (OpenSpec.ofChange naturalValuesSpec)

/-- ITS FALSE NEIGHBOUR: 'it returns false'. Refute it at one input. -/
def naturalValuesWrong : ChangeSpec := { name := "naturalValues", fn := fun _ => fun
  | [d1, d2, d3] => { results := [.lit (.bool false)], args := [d1, d2, d3] }
  | _ => none }
def NaturalValuesWrongFalsely : Prop := naturalValuesRow.holds Try.pinned (OpenSpec.ofChange naturalValuesWrong)

/-- 'gridmarketlaw01.NaturalSums': WHATEVER THE INPUT: true; the input reads as it did. -/
def naturalSumsSpec : ChangeSpec := { name := "naturalSums", fn := fun _ => fun
  | [d1, d2] => { results := [.lit (.bool true)], args := [d1, d2] }
  | _ => none }
def naturalSumsRow : OpenClaim := { program := "ytmlhfccpnehaeaa", sum := "791540f24f2aae90729a6e032373adc19e747c8391132ddbab1e794c7ffc29b8", func := "gridmarket/gridmarketlaw01.NaturalSums", spec := "naturalSums", apart := false }
def NaturalSumsSaid : Prop := naturalSumsRow.holds Try.pinned (OpenSpec.ofChange naturalSumsSpec)

/-- ITS FALSE NEIGHBOUR: 'it returns false'. Refute it at one input. -/
def naturalSumsWrong : ChangeSpec := { name := "naturalSums", fn := fun _ => fun
  | [d1, d2] => { results := [.lit (.bool false)], args := [d1, d2] }
  | _ => none }
def NaturalSumsWrongFalsely : Prop := naturalSumsRow.holds Try.pinned (OpenSpec.ofChange naturalSumsWrong)

/-- 'gridmarketlaw01.NaturalProducts': WHATEVER THE INPUT: true; the input reads as it did. -/
def naturalProductsSpec : ChangeSpec := { name := "naturalProducts", fn := fun _ => fun
  | [d1, d2] => { results := [.lit (.bool true)], args := [d1, d2] }
  | _ => none }
def naturalProductsRow : OpenClaim := { program := "ytmlhfccpnehaeaa", sum := "791540f24f2aae90729a6e032373adc19e747c8391132ddbab1e794c7ffc29b8", func := "gridmarket/gridmarketlaw01.NaturalProducts", spec := "naturalProducts", apart := false }
def NaturalProductsSaid : Prop := naturalProductsRow.holds Try.pinned (OpenSpec.ofChange naturalProductsSpec)

/-- ITS FALSE NEIGHBOUR: 'it returns false'. Refute it at one input. -/
def naturalProductsWrong : ChangeSpec := { name := "naturalProducts", fn := fun _ => fun
  | [d1, d2] => { results := [.lit (.bool false)], args := [d1, d2] }
  | _ => none }
def NaturalProductsWrongFalsely : Prop := naturalProductsRow.holds Try.pinned (OpenSpec.ofChange naturalProductsWrong)

/-- 'gridmarketlaw01.NaturalRing': WHATEVER THE INPUT: true; the input reads as it did. -/
def naturalRingSpec : ChangeSpec := { name := "naturalRing", fn := fun _ => fun
  | [d1, d2, d3] => { results := [.lit (.bool true)], args := [d1, d2, d3] }
  | _ => none }
def naturalRingRow : OpenClaim := { program := "ytmlhfccpnehaeaa", sum := "791540f24f2aae90729a6e032373adc19e747c8391132ddbab1e794c7ffc29b8", func := "gridmarket/gridmarketlaw01.NaturalRing", spec := "naturalRing", apart := false }
def NaturalRingSaid : Prop := naturalRingRow.holds Try.pinned (OpenSpec.ofChange naturalRingSpec)

/-- ITS FALSE NEIGHBOUR: 'it returns false'. Refute it at one input. -/
def naturalRingWrong : ChangeSpec := { name := "naturalRing", fn := fun _ => fun
  | [d1, d2, d3] => { results := [.lit (.bool false)], args := [d1, d2, d3] }
  | _ => none }
def NaturalRingWrongFalsely : Prop := naturalRingRow.holds Try.pinned (OpenSpec.ofChange naturalRingWrong)

/-- 'gridmarketlaw01.NaturalDivides': WHATEVER THE INPUT: true; the input reads as it did. -/
def naturalDividesSpec : ChangeSpec := { name := "naturalDivides", fn := fun _ => fun
  | [d1, d2] => { results := [.lit (.bool true)], args := [d1, d2] }
  | _ => none }
def naturalDividesRow : OpenClaim := { program := "ytmlhfccpnehaeaa", sum := "791540f24f2aae90729a6e032373adc19e747c8391132ddbab1e794c7ffc29b8", func := "gridmarket/gridmarketlaw01.NaturalDivides", spec := "naturalDivides", apart := false }
def NaturalDividesSaid : Prop := naturalDividesRow.holds Try.pinned (OpenSpec.ofChange naturalDividesSpec)

/-- ITS FALSE NEIGHBOUR: 'it returns false'. Refute it at one input. -/
def naturalDividesWrong : ChangeSpec := { name := "naturalDivides", fn := fun _ => fun
  | [d1, d2] => { results := [.lit (.bool false)], args := [d1, d2] }
  | _ => none }
def NaturalDividesWrongFalsely : Prop := naturalDividesRow.holds Try.pinned (OpenSpec.ofChange naturalDividesWrong)

/-- 'gridmarketlaw01.NaturalGCD': WHATEVER THE INPUT: true; the input reads as it did. -/
def naturalGCDSpec : ChangeSpec := { name := "naturalGCD", fn := fun _ => fun
  | [d1, d2, d3] => { results := [.lit (.bool true)], args := [d1, d2, d3] }
  | _ => none }
def naturalGCDRow : OpenClaim := { program := "ytmlhfccpnehaeaa", sum := "791540f24f2aae90729a6e032373adc19e747c8391132ddbab1e794c7ffc29b8", func := "gridmarket/gridmarketlaw01.NaturalGCD", spec := "naturalGCD", apart := false }
def NaturalGCDSaid : Prop := naturalGCDRow.holds Try.pinned (OpenSpec.ofChange naturalGCDSpec)

/-- ITS FALSE NEIGHBOUR: 'it returns false'. Refute it at one input. -/
def naturalGCDWrong : ChangeSpec := { name := "naturalGCD", fn := fun _ => fun
  | [d1, d2, d3] => { results := [.lit (.bool false)], args := [d1, d2, d3] }
  | _ => none }
def NaturalGCDWrongFalsely : Prop := naturalGCDRow.holds Try.pinned (OpenSpec.ofChange naturalGCDWrong)

/-- 'gridmarketlaw01.NaturalOrder': WHATEVER THE INPUT: true; the input reads as it did. -/
def naturalOrderSpec : ChangeSpec := { name := "naturalOrder", fn := fun _ => fun
  | [d1, d2, d3] => { results := [.lit (.bool true)], args := [d1, d2, d3] }
  | _ => none }
def naturalOrderRow : OpenClaim := { program := "ytmlhfccpnehaeaa", sum := "791540f24f2aae90729a6e032373adc19e747c8391132ddbab1e794c7ffc29b8", func := "gridmarket/gridmarketlaw01.NaturalOrder", spec := "naturalOrder", apart := false }
def NaturalOrderSaid : Prop := naturalOrderRow.holds Try.pinned (OpenSpec.ofChange naturalOrderSpec)

/-- ITS FALSE NEIGHBOUR: 'it returns false'. Refute it at one input. -/
def naturalOrderWrong : ChangeSpec := { name := "naturalOrder", fn := fun _ => fun
  | [d1, d2, d3] => { results := [.lit (.bool false)], args := [d1, d2, d3] }
  | _ => none }
def NaturalOrderWrongFalsely : Prop := naturalOrderRow.holds Try.pinned (OpenSpec.ofChange naturalOrderWrong)

/-- 'gridmarketlaw01.NaturalZeros': WHATEVER THE INPUT: true; the input reads as it did. -/
def naturalZerosSpec : ChangeSpec := { name := "naturalZeros", fn := fun _ => fun
  | [d1, d2, d3] => { results := [.lit (.bool true)], args := [d1, d2, d3] }
  | _ => none }
def naturalZerosRow : OpenClaim := { program := "ytmlhfccpnehaeaa", sum := "791540f24f2aae90729a6e032373adc19e747c8391132ddbab1e794c7ffc29b8", func := "gridmarket/gridmarketlaw01.NaturalZeros", spec := "naturalZeros", apart := false }
def NaturalZerosSaid : Prop := naturalZerosRow.holds Try.pinned (OpenSpec.ofChange naturalZerosSpec)

/-- ITS FALSE NEIGHBOUR: 'it returns false'. Refute it at one input. -/
def naturalZerosWrong : ChangeSpec := { name := "naturalZeros", fn := fun _ => fun
  | [d1, d2, d3] => { results := [.lit (.bool false)], args := [d1, d2, d3] }
  | _ => none }
def NaturalZerosWrongFalsely : Prop := naturalZerosRow.holds Try.pinned (OpenSpec.ofChange naturalZerosWrong)

/-- 'gridmarketlaw01.NaturalShifts': WHATEVER THE INPUT: true; the input reads as it did. -/
def naturalShiftsSpec : ChangeSpec := { name := "naturalShifts", fn := fun _ => fun
  | [d1, d2, d3] => { results := [.lit (.bool true)], args := [d1, d2, d3] }
  | _ => none }
def naturalShiftsRow : OpenClaim := { program := "ytmlhfccpnehaeaa", sum := "791540f24f2aae90729a6e032373adc19e747c8391132ddbab1e794c7ffc29b8", func := "gridmarket/gridmarketlaw01.NaturalShifts", spec := "naturalShifts", apart := false }
def NaturalShiftsSaid : Prop := naturalShiftsRow.holds Try.pinned (OpenSpec.ofChange naturalShiftsSpec)

/-- ITS FALSE NEIGHBOUR: 'it returns false'. Refute it at one input. -/
def naturalShiftsWrong : ChangeSpec := { name := "naturalShifts", fn := fun _ => fun
  | [d1, d2, d3] => { results := [.lit (.bool false)], args := [d1, d2, d3] }
  | _ => none }
def NaturalShiftsWrongFalsely : Prop := naturalShiftsRow.holds Try.pinned (OpenSpec.ofChange naturalShiftsWrong)

/-- 'gridmarketlaw01.NaturalKeeps': WHATEVER THE INPUT: true; the input reads as it did. -/
def naturalKeepsSpec : ChangeSpec := { name := "naturalKeeps", fn := fun _ => fun
  | [d1, d2] => { results := [.lit (.bool true)], args := [d1, d2] }
  | _ => none }
def naturalKeepsRow : OpenClaim := { program := "ytmlhfccpnehaeaa", sum := "791540f24f2aae90729a6e032373adc19e747c8391132ddbab1e794c7ffc29b8", func := "gridmarket/gridmarketlaw01.NaturalKeeps", spec := "naturalKeeps", apart := false }
def NaturalKeepsSaid : Prop := naturalKeepsRow.holds Try.pinned (OpenSpec.ofChange naturalKeepsSpec)

/-- ITS FALSE NEIGHBOUR: 'it returns false'. Refute it at one input. -/
def naturalKeepsWrong : ChangeSpec := { name := "naturalKeeps", fn := fun _ => fun
  | [d1, d2] => { results := [.lit (.bool false)], args := [d1, d2] }
  | _ => none }
def NaturalKeepsWrongFalsely : Prop := naturalKeepsRow.holds Try.pinned (OpenSpec.ofChange naturalKeepsWrong)

/-- 'gridmarketlaw01.NaturalScaling': WHATEVER THE INPUT: true; the input reads as it did. -/
def naturalScalingSpec : ChangeSpec := { name := "naturalScaling", fn := fun _ => fun
  | [d1, d2] => { results := [.lit (.bool true)], args := [d1, d2] }
  | _ => none }
def naturalScalingRow : OpenClaim := { program := "ytmlhfccpnehaeaa", sum := "791540f24f2aae90729a6e032373adc19e747c8391132ddbab1e794c7ffc29b8", func := "gridmarket/gridmarketlaw01.NaturalScaling", spec := "naturalScaling", apart := false }
def NaturalScalingSaid : Prop := naturalScalingRow.holds Try.pinned (OpenSpec.ofChange naturalScalingSpec)

/-- ITS FALSE NEIGHBOUR: 'it returns false'. Refute it at one input. -/
def naturalScalingWrong : ChangeSpec := { name := "naturalScaling", fn := fun _ => fun
  | [d1, d2] => { results := [.lit (.bool false)], args := [d1, d2] }
  | _ => none }
def NaturalScalingWrongFalsely : Prop := naturalScalingRow.holds Try.pinned (OpenSpec.ofChange naturalScalingWrong)

/- THE SECOND FORM. 'bulk': how many values and letters a reading holds, each counted each time it is reached (what is shared counts as often as it is met; a slice's spare places count too). A statement '..UptoSaid' is the law's where the arguments, and the package variables that the reading takes, are together of bulk at most 1048576: NARROWER than '..Said'. Prove '..Said' where nothing that the law and all that it calls make is longer than what came in: it says more and counts as full. Else prove '..UptoSaid'. A law counts once. -/
mutual
def uptoBulk {H : Type} : DataW H → Nat
  | .lit (.string bytes) => bytes.length + 1
  | .lit _ => 1
  | .nil => 1
  | .ptr d => uptoBulk d + 1
  | .slice elems spare => uptoBulkAll elems + uptoBulkAll spare + 1
  | .agg parts => uptoBulkAll parts + 1
  | .iface _ d => uptoBulk d + 1
  | .map entries => uptoBulkEntries entries + 1
  | .held _ => 1
def uptoBulkAll {H : Type} : List (DataW H) → Nat
  | [] => 0
  | d :: r => uptoBulk d + uptoBulkAll r
def uptoBulkEntries {H : Type} : List (Lit × DataW H) → Nat
  | [] => 0
  | x :: r => uptoBulkEntry x + uptoBulkEntries r
def uptoBulkEntry {H : Type} : Lit × DataW H → Nat
  | (.string bytes, d) => bytes.length + uptoBulk d + 1
  | (_, d) => uptoBulk d + 1
 end
def uptoSmall : (H : Type) → List (DataW H) → Bool := fun _ ds => decide (uptoBulkAll ds ≤ 1048576)
def OpenSpec.upto (s : _root_.Go.ChangeSpec) : _root_.Go.OpenSpec := { _root_.Go.OpenSpec.ofChange s with cond := some uptoSmall }

/-- 'gridmarketlaw01.NaturalValues', WHERE WHAT IT READS IS OF BULK AT MOST 1048576: true; the input reads as it did. -/
def naturalValuesUptoRow : OpenClaim := { program := "ytmlhfccpnehaeaa", sum := "791540f24f2aae90729a6e032373adc19e747c8391132ddbab1e794c7ffc29b8", func := "gridmarket/gridmarketlaw01.NaturalValues", spec := "naturalValues", apart := false, narrowed := true }
def NaturalValuesUptoSaid : Prop := naturalValuesUptoRow.holds Try.pinned (OpenSpec.upto naturalValuesSpec)

/-- 'gridmarketlaw01.NaturalSums', WHERE WHAT IT READS IS OF BULK AT MOST 1048576: true; the input reads as it did. -/
def naturalSumsUptoRow : OpenClaim := { program := "ytmlhfccpnehaeaa", sum := "791540f24f2aae90729a6e032373adc19e747c8391132ddbab1e794c7ffc29b8", func := "gridmarket/gridmarketlaw01.NaturalSums", spec := "naturalSums", apart := false, narrowed := true }
def NaturalSumsUptoSaid : Prop := naturalSumsUptoRow.holds Try.pinned (OpenSpec.upto naturalSumsSpec)

/-- 'gridmarketlaw01.NaturalProducts', WHERE WHAT IT READS IS OF BULK AT MOST 1048576: true; the input reads as it did. -/
def naturalProductsUptoRow : OpenClaim := { program := "ytmlhfccpnehaeaa", sum := "791540f24f2aae90729a6e032373adc19e747c8391132ddbab1e794c7ffc29b8", func := "gridmarket/gridmarketlaw01.NaturalProducts", spec := "naturalProducts", apart := false, narrowed := true }
def NaturalProductsUptoSaid : Prop := naturalProductsUptoRow.holds Try.pinned (OpenSpec.upto naturalProductsSpec)

/-- 'gridmarketlaw01.NaturalRing', WHERE WHAT IT READS IS OF BULK AT MOST 1048576: true; the input reads as it did. -/
def naturalRingUptoRow : OpenClaim := { program := "ytmlhfccpnehaeaa", sum := "791540f24f2aae90729a6e032373adc19e747c8391132ddbab1e794c7ffc29b8", func := "gridmarket/gridmarketlaw01.NaturalRing", spec := "naturalRing", apart := false, narrowed := true }
def NaturalRingUptoSaid : Prop := naturalRingUptoRow.holds Try.pinned (OpenSpec.upto naturalRingSpec)

/-- 'gridmarketlaw01.NaturalDivides', WHERE WHAT IT READS IS OF BULK AT MOST 1048576: true; the input reads as it did. -/
def naturalDividesUptoRow : OpenClaim := { program := "ytmlhfccpnehaeaa", sum := "791540f24f2aae90729a6e032373adc19e747c8391132ddbab1e794c7ffc29b8", func := "gridmarket/gridmarketlaw01.NaturalDivides", spec := "naturalDivides", apart := false, narrowed := true }
def NaturalDividesUptoSaid : Prop := naturalDividesUptoRow.holds Try.pinned (OpenSpec.upto naturalDividesSpec)

/-- 'gridmarketlaw01.NaturalGCD', WHERE WHAT IT READS IS OF BULK AT MOST 1048576: true; the input reads as it did. -/
def naturalGCDUptoRow : OpenClaim := { program := "ytmlhfccpnehaeaa", sum := "791540f24f2aae90729a6e032373adc19e747c8391132ddbab1e794c7ffc29b8", func := "gridmarket/gridmarketlaw01.NaturalGCD", spec := "naturalGCD", apart := false, narrowed := true }
def NaturalGCDUptoSaid : Prop := naturalGCDUptoRow.holds Try.pinned (OpenSpec.upto naturalGCDSpec)

/-- 'gridmarketlaw01.NaturalOrder', WHERE WHAT IT READS IS OF BULK AT MOST 1048576: true; the input reads as it did. -/
def naturalOrderUptoRow : OpenClaim := { program := "ytmlhfccpnehaeaa", sum := "791540f24f2aae90729a6e032373adc19e747c8391132ddbab1e794c7ffc29b8", func := "gridmarket/gridmarketlaw01.NaturalOrder", spec := "naturalOrder", apart := false, narrowed := true }
def NaturalOrderUptoSaid : Prop := naturalOrderUptoRow.holds Try.pinned (OpenSpec.upto naturalOrderSpec)

/-- 'gridmarketlaw01.NaturalZeros', WHERE WHAT IT READS IS OF BULK AT MOST 1048576: true; the input reads as it did. -/
def naturalZerosUptoRow : OpenClaim := { program := "ytmlhfccpnehaeaa", sum := "791540f24f2aae90729a6e032373adc19e747c8391132ddbab1e794c7ffc29b8", func := "gridmarket/gridmarketlaw01.NaturalZeros", spec := "naturalZeros", apart := false, narrowed := true }
def NaturalZerosUptoSaid : Prop := naturalZerosUptoRow.holds Try.pinned (OpenSpec.upto naturalZerosSpec)

/-- 'gridmarketlaw01.NaturalShifts', WHERE WHAT IT READS IS OF BULK AT MOST 1048576: true; the input reads as it did. -/
def naturalShiftsUptoRow : OpenClaim := { program := "ytmlhfccpnehaeaa", sum := "791540f24f2aae90729a6e032373adc19e747c8391132ddbab1e794c7ffc29b8", func := "gridmarket/gridmarketlaw01.NaturalShifts", spec := "naturalShifts", apart := false, narrowed := true }
def NaturalShiftsUptoSaid : Prop := naturalShiftsUptoRow.holds Try.pinned (OpenSpec.upto naturalShiftsSpec)

/-- 'gridmarketlaw01.NaturalKeeps', WHERE WHAT IT READS IS OF BULK AT MOST 1048576: true; the input reads as it did. -/
def naturalKeepsUptoRow : OpenClaim := { program := "ytmlhfccpnehaeaa", sum := "791540f24f2aae90729a6e032373adc19e747c8391132ddbab1e794c7ffc29b8", func := "gridmarket/gridmarketlaw01.NaturalKeeps", spec := "naturalKeeps", apart := false, narrowed := true }
def NaturalKeepsUptoSaid : Prop := naturalKeepsUptoRow.holds Try.pinned (OpenSpec.upto naturalKeepsSpec)

/-- 'gridmarketlaw01.NaturalScaling', WHERE WHAT IT READS IS OF BULK AT MOST 1048576: true; the input reads as it did. -/
def naturalScalingUptoRow : OpenClaim := { program := "ytmlhfccpnehaeaa", sum := "791540f24f2aae90729a6e032373adc19e747c8391132ddbab1e794c7ffc29b8", func := "gridmarket/gridmarketlaw01.NaturalScaling", spec := "naturalScaling", apart := false, narrowed := true }
def NaturalScalingUptoSaid : Prop := naturalScalingUptoRow.holds Try.pinned (OpenSpec.upto naturalScalingSpec)

end Rows
end Go.Proofs.Ytmlhfccpnehaeaa
