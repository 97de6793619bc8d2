/-
  No cell of these rows narrows 'for every input' (looked for: loops, veiled, ifaces, maps, wideKeys, modest, calm, conditions, laid).
  DERIVED. THE GIVEN ROWS OF THIS SEAT. 9 by the template 'for every input the law returns true; each argument reads behind the call as it read before'; 0 by the template 'total and deterministic' (their statements: YtfcofbchhcojiaaTotals.lean).
  GIVEN WITH THE SEED: the statements are not yours to turn. If you find one false, say at which input.
  Laid BY PROGRAM, IN A SANDBOX (cutbox-rows.mjs): the forced cells as the released guide's own fill.sh prints them over the translation 4411fd5b924d9c23… (all of the seat's roots in one cut). By AI agents, Wed Nov 11 2026. No macro, syntax, notation, axiom, sorry.
-/
import Derived.Test.YtfcofbchhcojiaaChecked
import GoSem.Claim
import GoSem.ClaimJoined
import GoSem.ClaimMapViews
import Derived.JoinedTies
import Derived.KernelRfl
namespace Go.Proofs.Ytfcofbchhcojiaa
/- THE CELL 'sum', in the pinned program and in every row, IS THE sha256 OF THE DUMP (.gsa) THAT YtfcofbchhcojiaaProg.lean LOADS. Nothing in Lean hashes anything: it is a label: what it is worth is what the hold of that sum in a sandbox is worth. -/
noncomputable def Try.pinned : Pinned := { name := "ytfcofbchhcojiaa", sum := "4411fd5b924d9c233cbc604cc1ccea4f2c6242585f1b331f21d0486e14414969", checked := Try.checked }
namespace Rows
def none {H : Type} : Left H := { results := [], args := [] }

/-- 'gridmarketlaw02.IntegerRing': WHATEVER THE INPUT: true; the input reads as it did. -/
def integerRingSpec : ChangeSpec := { name := "integerRing", fn := fun _ => fun
  | [d1, d2, d3] => { results := [.lit (.bool true)], args := [d1, d2, d3] }
  | _ => none }
def integerRingRow : OpenClaim := { program := "ytfcofbchhcojiaa", sum := "4411fd5b924d9c233cbc604cc1ccea4f2c6242585f1b331f21d0486e14414969", func := "gridmarket/gridmarketlaw02.IntegerRing", spec := "integerRing", apart := false }
def IntegerRingSaid : Prop := integerRingRow.holds Try.pinned (OpenSpec.ofChange integerRingSpec)

/-- ITS FALSE NEIGHBOUR: 'it returns false'. Refute it at one input. -/
def integerRingWrong : ChangeSpec := { name := "integerRing", fn := fun _ => fun
  | [d1, d2, d3] => { results := [.lit (.bool false)], args := [d1, d2, d3] }
  | _ => none }
def IntegerRingWrongFalsely : Prop := integerRingRow.holds Try.pinned (OpenSpec.ofChange integerRingWrong)

/-- 'gridmarketlaw02.IntegerSums': WHATEVER THE INPUT: true; the input reads as it did. -/
def integerSumsSpec : ChangeSpec := { name := "integerSums", fn := fun _ => fun
  | [d1, d2] => { results := [.lit (.bool true)], args := [d1, d2] }
  | _ => none }
def integerSumsRow : OpenClaim := { program := "ytfcofbchhcojiaa", sum := "4411fd5b924d9c233cbc604cc1ccea4f2c6242585f1b331f21d0486e14414969", func := "gridmarket/gridmarketlaw02.IntegerSums", spec := "integerSums", apart := false }
def IntegerSumsSaid : Prop := integerSumsRow.holds Try.pinned (OpenSpec.ofChange integerSumsSpec)

/-- ITS FALSE NEIGHBOUR: 'it returns false'. Refute it at one input. -/
def integerSumsWrong : ChangeSpec := { name := "integerSums", fn := fun _ => fun
  | [d1, d2] => { results := [.lit (.bool false)], args := [d1, d2] }
  | _ => none }
def IntegerSumsWrongFalsely : Prop := integerSumsRow.holds Try.pinned (OpenSpec.ofChange integerSumsWrong)

/-- 'gridmarketlaw02.IntegerOrder': WHATEVER THE INPUT: true; the input reads as it did. -/
def integerOrderSpec : ChangeSpec := { name := "integerOrder", fn := fun _ => fun
  | [d1, d2, d3] => { results := [.lit (.bool true)], args := [d1, d2, d3] }
  | _ => none }
def integerOrderRow : OpenClaim := { program := "ytfcofbchhcojiaa", sum := "4411fd5b924d9c233cbc604cc1ccea4f2c6242585f1b331f21d0486e14414969", func := "gridmarket/gridmarketlaw02.IntegerOrder", spec := "integerOrder", apart := false }
def IntegerOrderSaid : Prop := integerOrderRow.holds Try.pinned (OpenSpec.ofChange integerOrderSpec)

/-- ITS FALSE NEIGHBOUR: 'it returns false'. Refute it at one input. -/
def integerOrderWrong : ChangeSpec := { name := "integerOrder", fn := fun _ => fun
  | [d1, d2, d3] => { results := [.lit (.bool false)], args := [d1, d2, d3] }
  | _ => none }
def IntegerOrderWrongFalsely : Prop := integerOrderRow.holds Try.pinned (OpenSpec.ofChange integerOrderWrong)

/-- 'gridmarketlaw02.IntegerValues': WHATEVER THE INPUT: true; the input reads as it did. -/
def integerValuesSpec : ChangeSpec := { name := "integerValues", fn := fun _ => fun
  | [d1, d2, d3] => { results := [.lit (.bool true)], args := [d1, d2, d3] }
  | _ => none }
def integerValuesRow : OpenClaim := { program := "ytfcofbchhcojiaa", sum := "4411fd5b924d9c233cbc604cc1ccea4f2c6242585f1b331f21d0486e14414969", func := "gridmarket/gridmarketlaw02.IntegerValues", spec := "integerValues", apart := false }
def IntegerValuesSaid : Prop := integerValuesRow.holds Try.pinned (OpenSpec.ofChange integerValuesSpec)

/-- ITS FALSE NEIGHBOUR: 'it returns false'. Refute it at one input. -/
def integerValuesWrong : ChangeSpec := { name := "integerValues", fn := fun _ => fun
  | [d1, d2, d3] => { results := [.lit (.bool false)], args := [d1, d2, d3] }
  | _ => none }
def IntegerValuesWrongFalsely : Prop := integerValuesRow.holds Try.pinned (OpenSpec.ofChange integerValuesWrong)

/-- 'gridmarketlaw02.IntegerDivides': WHATEVER THE INPUT: true; the input reads as it did. -/
def integerDividesSpec : ChangeSpec := { name := "integerDivides", fn := fun _ => fun
  | [d1, d2] => { results := [.lit (.bool true)], args := [d1, d2] }
  | _ => none }
def integerDividesRow : OpenClaim := { program := "ytfcofbchhcojiaa", sum := "4411fd5b924d9c233cbc604cc1ccea4f2c6242585f1b331f21d0486e14414969", func := "gridmarket/gridmarketlaw02.IntegerDivides", spec := "integerDivides", apart := false }
def IntegerDividesSaid : Prop := integerDividesRow.holds Try.pinned (OpenSpec.ofChange integerDividesSpec)

/-- ITS FALSE NEIGHBOUR: 'it returns false'. Refute it at one input. -/
def integerDividesWrong : ChangeSpec := { name := "integerDivides", fn := fun _ => fun
  | [d1, d2] => { results := [.lit (.bool false)], args := [d1, d2] }
  | _ => none }
def IntegerDividesWrongFalsely : Prop := integerDividesRow.holds Try.pinned (OpenSpec.ofChange integerDividesWrong)

/-- 'gridmarketlaw02.IntegerNative': WHATEVER THE INPUT: true; the input reads as it did. -/
def integerNativeSpec : ChangeSpec := { name := "integerNative", fn := fun _ => fun
  | [d1, d2] => { results := [.lit (.bool true)], args := [d1, d2] }
  | _ => none }
def integerNativeRow : OpenClaim := { program := "ytfcofbchhcojiaa", sum := "4411fd5b924d9c233cbc604cc1ccea4f2c6242585f1b331f21d0486e14414969", func := "gridmarket/gridmarketlaw02.IntegerNative", spec := "integerNative", apart := false }
def IntegerNativeSaid : Prop := integerNativeRow.holds Try.pinned (OpenSpec.ofChange integerNativeSpec)

/-- ITS FALSE NEIGHBOUR: 'it returns false'. Refute it at one input. -/
def integerNativeWrong : ChangeSpec := { name := "integerNative", fn := fun _ => fun
  | [d1, d2] => { results := [.lit (.bool false)], args := [d1, d2] }
  | _ => none }
def IntegerNativeWrongFalsely : Prop := integerNativeRow.holds Try.pinned (OpenSpec.ofChange integerNativeWrong)

/-- 'gridmarketlaw02.IntegerDivisors': WHATEVER THE INPUT: true; the input reads as it did. -/
def integerDivisorsSpec : ChangeSpec := { name := "integerDivisors", fn := fun _ => fun
  | [d1, d2, d3] => { results := [.lit (.bool true)], args := [d1, d2, d3] }
  | _ => none }
def integerDivisorsRow : OpenClaim := { program := "ytfcofbchhcojiaa", sum := "4411fd5b924d9c233cbc604cc1ccea4f2c6242585f1b331f21d0486e14414969", func := "gridmarket/gridmarketlaw02.IntegerDivisors", spec := "integerDivisors", apart := false }
def IntegerDivisorsSaid : Prop := integerDivisorsRow.holds Try.pinned (OpenSpec.ofChange integerDivisorsSpec)

/-- ITS FALSE NEIGHBOUR: 'it returns false'. Refute it at one input. -/
def integerDivisorsWrong : ChangeSpec := { name := "integerDivisors", fn := fun _ => fun
  | [d1, d2, d3] => { results := [.lit (.bool false)], args := [d1, d2, d3] }
  | _ => none }
def IntegerDivisorsWrongFalsely : Prop := integerDivisorsRow.holds Try.pinned (OpenSpec.ofChange integerDivisorsWrong)

/-- 'gridmarketlaw02.IntegerExtended': WHATEVER THE INPUT: true; the input reads as it did. -/
def integerExtendedSpec : ChangeSpec := { name := "integerExtended", fn := fun _ => fun
  | [d1, d2] => { results := [.lit (.bool true)], args := [d1, d2] }
  | _ => none }
def integerExtendedRow : OpenClaim := { program := "ytfcofbchhcojiaa", sum := "4411fd5b924d9c233cbc604cc1ccea4f2c6242585f1b331f21d0486e14414969", func := "gridmarket/gridmarketlaw02.IntegerExtended", spec := "integerExtended", apart := false }
def IntegerExtendedSaid : Prop := integerExtendedRow.holds Try.pinned (OpenSpec.ofChange integerExtendedSpec)

/-- ITS FALSE NEIGHBOUR: 'it returns false'. Refute it at one input. -/
def integerExtendedWrong : ChangeSpec := { name := "integerExtended", fn := fun _ => fun
  | [d1, d2] => { results := [.lit (.bool false)], args := [d1, d2] }
  | _ => none }
def IntegerExtendedWrongFalsely : Prop := integerExtendedRow.holds Try.pinned (OpenSpec.ofChange integerExtendedWrong)

/-- 'gridmarketlaw02.IntegerKeeps': WHATEVER THE INPUT: true; the input reads as it did. -/
def integerKeepsSpec : ChangeSpec := { name := "integerKeeps", fn := fun _ => fun
  | [d1, d2] => { results := [.lit (.bool true)], args := [d1, d2] }
  | _ => none }
def integerKeepsRow : OpenClaim := { program := "ytfcofbchhcojiaa", sum := "4411fd5b924d9c233cbc604cc1ccea4f2c6242585f1b331f21d0486e14414969", func := "gridmarket/gridmarketlaw02.IntegerKeeps", spec := "integerKeeps", apart := false }
def IntegerKeepsSaid : Prop := integerKeepsRow.holds Try.pinned (OpenSpec.ofChange integerKeepsSpec)

/-- ITS FALSE NEIGHBOUR: 'it returns false'. Refute it at one input. -/
def integerKeepsWrong : ChangeSpec := { name := "integerKeeps", fn := fun _ => fun
  | [d1, d2] => { results := [.lit (.bool false)], args := [d1, d2] }
  | _ => none }
def IntegerKeepsWrongFalsely : Prop := integerKeepsRow.holds Try.pinned (OpenSpec.ofChange integerKeepsWrong)

/- THE SECOND FORM. 'bulk': how many values and letters a reading holds, each counted each time it is reached (what is shared counts as often as it is met; a slice's spare places count too). A statement '..UptoSaid' is the law's where the arguments, and the package variables that the reading takes, are together of bulk at most 1048576: NARROWER than '..Said'. Prove '..Said' where nothing that the law and all that it calls make is longer than what came in: it says more and counts as full. Else prove '..UptoSaid'. A law counts once. -/
mutual
def uptoBulk {H : Type} : DataW H → Nat
  | .lit (.string bytes) => bytes.length + 1
  | .lit _ => 1
  | .nil => 1
  | .ptr d => uptoBulk d + 1
  | .slice elems spare => uptoBulkAll elems + uptoBulkAll spare + 1
  | .agg parts => uptoBulkAll parts + 1
  | .iface _ d => uptoBulk d + 1
  | .map entries => uptoBulkEntries entries + 1
  | .held _ => 1
def uptoBulkAll {H : Type} : List (DataW H) → Nat
  | [] => 0
  | d :: r => uptoBulk d + uptoBulkAll r
def uptoBulkEntries {H : Type} : List (Lit × DataW H) → Nat
  | [] => 0
  | x :: r => uptoBulkEntry x + uptoBulkEntries r
def uptoBulkEntry {H : Type} : Lit × DataW H → Nat
  | (.string bytes, d) => bytes.length + uptoBulk d + 1
  | (_, d) => uptoBulk d + 1
 end
def uptoSmall : (H : Type) → List (DataW H) → Bool := fun _ ds => decide (uptoBulkAll ds ≤ 1048576)
def OpenSpec.upto (s : _root_.Go.ChangeSpec) : _root_.Go.OpenSpec := { _root_.Go.OpenSpec.ofChange s with cond := some uptoSmall }

/-- 'gridmarketlaw02.IntegerRing', WHERE WHAT IT READS IS OF BULK AT MOST 1048576: true; the input reads as it did. -/
def integerRingUptoRow : OpenClaim := { program := "ytfcofbchhcojiaa", sum := "4411fd5b924d9c233cbc604cc1ccea4f2c6242585f1b331f21d0486e14414969", func := "gridmarket/gridmarketlaw02.IntegerRing", spec := "integerRing", apart := false, narrowed := true }
def IntegerRingUptoSaid : Prop := integerRingUptoRow.holds Try.pinned (OpenSpec.upto integerRingSpec)

/-- 'gridmarketlaw02.IntegerSums', WHERE WHAT IT READS IS OF BULK AT MOST 1048576: true; the input reads as it did. -/
def integerSumsUptoRow : OpenClaim := { program := "ytfcofbchhcojiaa", sum := "4411fd5b924d9c233cbc604cc1ccea4f2c6242585f1b331f21d0486e14414969", func := "gridmarket/gridmarketlaw02.IntegerSums", spec := "integerSums", apart := false, narrowed := true }
def IntegerSumsUptoSaid : Prop := integerSumsUptoRow.holds Try.pinned (OpenSpec.upto integerSumsSpec)

/-- 'gridmarketlaw02.IntegerOrder', WHERE WHAT IT READS IS OF BULK AT MOST 1048576: true; the input reads as it did. -/
def integerOrderUptoRow : OpenClaim := { program := "ytfcofbchhcojiaa", sum := "4411fd5b924d9c233cbc604cc1ccea4f2c6242585f1b331f21d0486e14414969", func := "gridmarket/gridmarketlaw02.IntegerOrder", spec := "integerOrder", apart := false, narrowed := true }
def IntegerOrderUptoSaid : Prop := integerOrderUptoRow.holds Try.pinned (OpenSpec.upto integerOrderSpec)

/-- 'gridmarketlaw02.IntegerValues', WHERE WHAT IT READS IS OF BULK AT MOST 1048576: true; the input reads as it did. -/
def integerValuesUptoRow : OpenClaim := { program := "ytfcofbchhcojiaa", sum := "4411fd5b924d9c233cbc604cc1ccea4f2c6242585f1b331f21d0486e14414969", func := "gridmarket/gridmarketlaw02.IntegerValues", spec := "integerValues", apart := false, narrowed := true }
def IntegerValuesUptoSaid : Prop := integerValuesUptoRow.holds Try.pinned (OpenSpec.upto integerValuesSpec)

/-- 'gridmarketlaw02.IntegerDivides', WHERE WHAT IT READS IS OF BULK AT MOST 1048576: true; the input reads as it did. -/
def integerDividesUptoRow : OpenClaim := { program := "ytfcofbchhcojiaa", sum := "4411fd5b924d9c233cbc604cc1ccea4f2c6242585f1b331f21d0486e14414969", func := "gridmarket/gridmarketlaw02.IntegerDivides", spec := "integerDivides", apart := false, narrowed := true }
def IntegerDividesUptoSaid : Prop := integerDividesUptoRow.holds Try.pinned (OpenSpec.upto integerDividesSpec)

/-- 'gridmarketlaw02.IntegerNative', WHERE WHAT IT READS IS OF BULK AT MOST 1048576: true; the input reads as it did. -/
def integerNativeUptoRow : OpenClaim := { program := "ytfcofbchhcojiaa", sum := "4411fd5b924d9c233cbc604cc1ccea4f2c6242585f1b331f21d0486e14414969", func := "gridmarket/gridmarketlaw02.IntegerNative", spec := "integerNative", apart := false, narrowed := true }
def IntegerNativeUptoSaid : Prop := integerNativeUptoRow.holds Try.pinned (OpenSpec.upto integerNativeSpec)

/-- 'gridmarketlaw02.IntegerDivisors', WHERE WHAT IT READS IS OF BULK AT MOST 1048576: true; the input reads as it did. -/
def integerDivisorsUptoRow : OpenClaim := { program := "ytfcofbchhcojiaa", sum := "4411fd5b924d9c233cbc604cc1ccea4f2c6242585f1b331f21d0486e14414969", func := "gridmarket/gridmarketlaw02.IntegerDivisors", spec := "integerDivisors", apart := false, narrowed := true }
def IntegerDivisorsUptoSaid : Prop := integerDivisorsUptoRow.holds Try.pinned (OpenSpec.upto integerDivisorsSpec)

/-- 'gridmarketlaw02.IntegerExtended', WHERE WHAT IT READS IS OF BULK AT MOST 1048576: true; the input reads as it did. -/
def integerExtendedUptoRow : OpenClaim := { program := "ytfcofbchhcojiaa", sum := "4411fd5b924d9c233cbc604cc1ccea4f2c6242585f1b331f21d0486e14414969", func := "gridmarket/gridmarketlaw02.IntegerExtended", spec := "integerExtended", apart := false, narrowed := true }
def IntegerExtendedUptoSaid : Prop := integerExtendedUptoRow.holds Try.pinned (OpenSpec.upto integerExtendedSpec)

/-- 'gridmarketlaw02.IntegerKeeps', WHERE WHAT IT READS IS OF BULK AT MOST 1048576: true; the input reads as it did. -/
def integerKeepsUptoRow : OpenClaim := { program := "ytfcofbchhcojiaa", sum := "4411fd5b924d9c233cbc604cc1ccea4f2c6242585f1b331f21d0486e14414969", func := "gridmarket/gridmarketlaw02.IntegerKeeps", spec := "integerKeeps", apart := false, narrowed := true }
def IntegerKeepsUptoSaid : Prop := integerKeepsUptoRow.holds Try.pinned (OpenSpec.upto integerKeepsSpec)

end Rows
end Go.Proofs.Ytfcofbchhcojiaa
