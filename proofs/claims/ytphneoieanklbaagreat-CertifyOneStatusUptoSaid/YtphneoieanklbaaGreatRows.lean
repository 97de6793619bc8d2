/-
  No cell of these rows narrows 'for every input' (looked for: loops, veiled, ifaces, maps, wideKeys, modest, calm, conditions, laid).
  DERIVED. THE GIVEN ROWS OF THIS SEAT. 7 by the template 'for every input the law returns true; each argument reads behind the call as it read before'; 0 by the template 'total and deterministic' (their statements: YtphneoieanklbaaGreatTotals.lean).
  GIVEN WITH THE SEED: the statements are not yours to turn. If you find one false, say at which input.
  Laid BY PROGRAM, IN A SANDBOX (cutbox-rows.mjs): the forced cells as the released guide's own fill.sh prints them over the translation ab76556751310524… (all of the seat's roots in one cut). By AI agents, Wed Nov 11 2026. No macro, syntax, notation, axiom, sorry.
-/
import Derived.Test.YtphneoieanklbaaGreatChecked
import GoSem.Claim
import GoSem.ClaimJoined
import GoSem.ClaimMapViews
import Derived.JoinedTies
import Derived.KernelRfl
namespace Go.Proofs.YtphneoieanklbaaGreat
/- THE CELL 'sum', in the pinned program and in every row, IS THE sha256 OF THE DUMP (.gsa) THAT YtphneoieanklbaaGreatProg.lean LOADS. Nothing in Lean hashes anything: it is a label: what it is worth is what the hold of that sum in a sandbox is worth. -/
noncomputable def Tryz.pinned : Pinned := { name := "ytphneoieanklbaagreat", sum := "ab765567513105243bd1e049752f54946f74a4b3fe104b725d812829fa89c221", checked := Tryz.checked }
namespace Rows
def none {H : Type} : Left H := { results := [], args := [] }

/-- 'gridmarketlaw12.CertifyOptimal': WHATEVER THE INPUT: true; the input reads as it did. -/
def certifyOptimalSpec : ChangeSpec := { name := "certifyOptimal", fn := fun _ => fun
  | [d1, d2, d3, d4, d5] => { results := [.lit (.bool true)], args := [d1, d2, d3, d4, d5] }
  | _ => none }
def certifyOptimalRow : OpenClaim := { program := "ytphneoieanklbaagreat", sum := "ab765567513105243bd1e049752f54946f74a4b3fe104b725d812829fa89c221", func := "gridmarket/gridmarketlaw12.CertifyOptimal", spec := "certifyOptimal", apart := false }
def CertifyOptimalSaid : Prop := certifyOptimalRow.holds Tryz.pinned (OpenSpec.ofChange certifyOptimalSpec)

/-- ITS FALSE NEIGHBOUR: 'it returns false'. Refute it at one input. -/
def certifyOptimalWrong : ChangeSpec := { name := "certifyOptimal", fn := fun _ => fun
  | [d1, d2, d3, d4, d5] => { results := [.lit (.bool false)], args := [d1, d2, d3, d4, d5] }
  | _ => none }
def CertifyOptimalWrongFalsely : Prop := certifyOptimalRow.holds Tryz.pinned (OpenSpec.ofChange certifyOptimalWrong)

/-- 'gridmarketlaw12.CertifyShortens': WHATEVER THE INPUT: true; the input reads as it did. -/
def certifyShortensSpec : ChangeSpec := { name := "certifyShortens", fn := fun _ => fun
  | [d1, d2, d3, d4, d5, d6] => { results := [.lit (.bool true)], args := [d1, d2, d3, d4, d5, d6] }
  | _ => none }
def certifyShortensRow : OpenClaim := { program := "ytphneoieanklbaagreat", sum := "ab765567513105243bd1e049752f54946f74a4b3fe104b725d812829fa89c221", func := "gridmarket/gridmarketlaw12.CertifyShortens", spec := "certifyShortens", apart := false }
def CertifyShortensSaid : Prop := certifyShortensRow.holds Tryz.pinned (OpenSpec.ofChange certifyShortensSpec)

/-- ITS FALSE NEIGHBOUR: 'it returns false'. Refute it at one input. -/
def certifyShortensWrong : ChangeSpec := { name := "certifyShortens", fn := fun _ => fun
  | [d1, d2, d3, d4, d5, d6] => { results := [.lit (.bool false)], args := [d1, d2, d3, d4, d5, d6] }
  | _ => none }
def CertifyShortensWrongFalsely : Prop := certifyShortensRow.holds Tryz.pinned (OpenSpec.ofChange certifyShortensWrong)

/-- 'gridmarketlaw12.CertifyKeepsBound': WHATEVER THE INPUT: true; the input reads as it did. -/
def certifyKeepsBoundSpec : ChangeSpec := { name := "certifyKeepsBound", fn := fun _ => fun
  | [d1, d2, d3, d4] => { results := [.lit (.bool true)], args := [d1, d2, d3, d4] }
  | _ => none }
def certifyKeepsBoundRow : OpenClaim := { program := "ytphneoieanklbaagreat", sum := "ab765567513105243bd1e049752f54946f74a4b3fe104b725d812829fa89c221", func := "gridmarket/gridmarketlaw12.CertifyKeepsBound", spec := "certifyKeepsBound", apart := false }
def CertifyKeepsBoundSaid : Prop := certifyKeepsBoundRow.holds Tryz.pinned (OpenSpec.ofChange certifyKeepsBoundSpec)

/-- ITS FALSE NEIGHBOUR: 'it returns false'. Refute it at one input. -/
def certifyKeepsBoundWrong : ChangeSpec := { name := "certifyKeepsBound", fn := fun _ => fun
  | [d1, d2, d3, d4] => { results := [.lit (.bool false)], args := [d1, d2, d3, d4] }
  | _ => none }
def CertifyKeepsBoundWrongFalsely : Prop := certifyKeepsBoundRow.holds Tryz.pinned (OpenSpec.ofChange certifyKeepsBoundWrong)

/-- 'gridmarketlaw12.CertifyInfeasible': WHATEVER THE INPUT: true; the input reads as it did. -/
def certifyInfeasibleSpec : ChangeSpec := { name := "certifyInfeasible", fn := fun _ => fun
  | [d1, d2, d3, d4, d5] => { results := [.lit (.bool true)], args := [d1, d2, d3, d4, d5] }
  | _ => none }
def certifyInfeasibleRow : OpenClaim := { program := "ytphneoieanklbaagreat", sum := "ab765567513105243bd1e049752f54946f74a4b3fe104b725d812829fa89c221", func := "gridmarket/gridmarketlaw12.CertifyInfeasible", spec := "certifyInfeasible", apart := false }
def CertifyInfeasibleSaid : Prop := certifyInfeasibleRow.holds Tryz.pinned (OpenSpec.ofChange certifyInfeasibleSpec)

/-- ITS FALSE NEIGHBOUR: 'it returns false'. Refute it at one input. -/
def certifyInfeasibleWrong : ChangeSpec := { name := "certifyInfeasible", fn := fun _ => fun
  | [d1, d2, d3, d4, d5] => { results := [.lit (.bool false)], args := [d1, d2, d3, d4, d5] }
  | _ => none }
def CertifyInfeasibleWrongFalsely : Prop := certifyInfeasibleRow.holds Tryz.pinned (OpenSpec.ofChange certifyInfeasibleWrong)

/-- 'gridmarketlaw12.CertifyUnbounded': WHATEVER THE INPUT: true; the input reads as it did. -/
def certifyUnboundedSpec : ChangeSpec := { name := "certifyUnbounded", fn := fun _ => fun
  | [d1, d2, d3, d4, d5] => { results := [.lit (.bool true)], args := [d1, d2, d3, d4, d5] }
  | _ => none }
def certifyUnboundedRow : OpenClaim := { program := "ytphneoieanklbaagreat", sum := "ab765567513105243bd1e049752f54946f74a4b3fe104b725d812829fa89c221", func := "gridmarket/gridmarketlaw12.CertifyUnbounded", spec := "certifyUnbounded", apart := false }
def CertifyUnboundedSaid : Prop := certifyUnboundedRow.holds Tryz.pinned (OpenSpec.ofChange certifyUnboundedSpec)

/-- ITS FALSE NEIGHBOUR: 'it returns false'. Refute it at one input. -/
def certifyUnboundedWrong : ChangeSpec := { name := "certifyUnbounded", fn := fun _ => fun
  | [d1, d2, d3, d4, d5] => { results := [.lit (.bool false)], args := [d1, d2, d3, d4, d5] }
  | _ => none }
def CertifyUnboundedWrongFalsely : Prop := certifyUnboundedRow.holds Tryz.pinned (OpenSpec.ofChange certifyUnboundedWrong)

/-- 'gridmarketlaw12.CertifyExact': WHATEVER THE INPUT: true; the input reads as it did. -/
def certifyExactSpec : ChangeSpec := { name := "certifyExact", fn := fun _ => fun
  | [d1, d2, d3, d4, d5, d6, d7, d8] => { results := [.lit (.bool true)], args := [d1, d2, d3, d4, d5, d6, d7, d8] }
  | _ => none }
def certifyExactRow : OpenClaim := { program := "ytphneoieanklbaagreat", sum := "ab765567513105243bd1e049752f54946f74a4b3fe104b725d812829fa89c221", func := "gridmarket/gridmarketlaw12.CertifyExact", spec := "certifyExact", apart := false }
def CertifyExactSaid : Prop := certifyExactRow.holds Tryz.pinned (OpenSpec.ofChange certifyExactSpec)

/-- ITS FALSE NEIGHBOUR: 'it returns false'. Refute it at one input. -/
def certifyExactWrong : ChangeSpec := { name := "certifyExact", fn := fun _ => fun
  | [d1, d2, d3, d4, d5, d6, d7, d8] => { results := [.lit (.bool false)], args := [d1, d2, d3, d4, d5, d6, d7, d8] }
  | _ => none }
def CertifyExactWrongFalsely : Prop := certifyExactRow.holds Tryz.pinned (OpenSpec.ofChange certifyExactWrong)

/-- 'gridmarketlaw12.CertifyOneStatus': WHATEVER THE INPUT: true; the input reads as it did. -/
def certifyOneStatusSpec : ChangeSpec := { name := "certifyOneStatus", fn := fun _ => fun
  | [d1, d2, d3] => { results := [.lit (.bool true)], args := [d1, d2, d3] }
  | _ => none }
def certifyOneStatusRow : OpenClaim := { program := "ytphneoieanklbaagreat", sum := "ab765567513105243bd1e049752f54946f74a4b3fe104b725d812829fa89c221", func := "gridmarket/gridmarketlaw12.CertifyOneStatus", spec := "certifyOneStatus", apart := false }
def CertifyOneStatusSaid : Prop := certifyOneStatusRow.holds Tryz.pinned (OpenSpec.ofChange certifyOneStatusSpec)

/-- ITS FALSE NEIGHBOUR: 'it returns false'. Refute it at one input. -/
def certifyOneStatusWrong : ChangeSpec := { name := "certifyOneStatus", fn := fun _ => fun
  | [d1, d2, d3] => { results := [.lit (.bool false)], args := [d1, d2, d3] }
  | _ => none }
def CertifyOneStatusWrongFalsely : Prop := certifyOneStatusRow.holds Tryz.pinned (OpenSpec.ofChange certifyOneStatusWrong)

/- THE SECOND FORM. 'bulk': how many values and letters a reading holds, each counted each time it is reached (what is shared counts as often as it is met; a slice's spare places count too). A statement '..UptoSaid' is the law's where the arguments, and the package variables that the reading takes, are together of bulk at most 1048576: NARROWER than '..Said'. Prove '..Said' where nothing that the law and all that it calls make is longer than what came in: it says more and counts as full. Else prove '..UptoSaid'. A law counts once. -/
mutual
def uptoBulk {H : Type} : DataW H → Nat
  | .lit (.string bytes) => bytes.length + 1
  | .lit _ => 1
  | .nil => 1
  | .ptr d => uptoBulk d + 1
  | .slice elems spare => uptoBulkAll elems + uptoBulkAll spare + 1
  | .agg parts => uptoBulkAll parts + 1
  | .iface _ d => uptoBulk d + 1
  | .map entries => uptoBulkEntries entries + 1
  | .held _ => 1
def uptoBulkAll {H : Type} : List (DataW H) → Nat
  | [] => 0
  | d :: r => uptoBulk d + uptoBulkAll r
def uptoBulkEntries {H : Type} : List (Lit × DataW H) → Nat
  | [] => 0
  | x :: r => uptoBulkEntry x + uptoBulkEntries r
def uptoBulkEntry {H : Type} : Lit × DataW H → Nat
  | (.string bytes, d) => bytes.length + uptoBulk d + 1
  | (_, d) => uptoBulk d + 1
 end
def uptoSmall : (H : Type) → List (DataW H) → Bool := fun _ ds => decide (uptoBulkAll ds ≤ 1048576)
def OpenSpec.upto (s : _root_.Go.ChangeSpec) : _root_.Go.OpenSpec := { _root_.Go.OpenSpec.ofChange s with cond := some uptoSmall }

/-- 'gridmarketlaw12.CertifyOptimal', WHERE WHAT IT READS IS OF BULK AT MOST 1048576: true; the input reads as it did. -/
def certifyOptimalUptoRow : OpenClaim := { program := "ytphneoieanklbaagreat", sum := "ab765567513105243bd1e049752f54946f74a4b3fe104b725d812829fa89c221", func := "gridmarket/gridmarketlaw12.CertifyOptimal", spec := "certifyOptimal", apart := false, narrowed := true }
def CertifyOptimalUptoSaid : Prop := certifyOptimalUptoRow.holds Tryz.pinned (OpenSpec.upto certifyOptimalSpec)

/-- 'gridmarketlaw12.CertifyShortens', WHERE WHAT IT READS IS OF BULK AT MOST 1048576: true; the input reads as it did. -/
def certifyShortensUptoRow : OpenClaim := { program := "ytphneoieanklbaagreat", sum := "ab765567513105243bd1e049752f54946f74a4b3fe104b725d812829fa89c221", func := "gridmarket/gridmarketlaw12.CertifyShortens", spec := "certifyShortens", apart := false, narrowed := true }
def CertifyShortensUptoSaid : Prop := certifyShortensUptoRow.holds Tryz.pinned (OpenSpec.upto certifyShortensSpec)

/-- 'gridmarketlaw12.CertifyKeepsBound', WHERE WHAT IT READS IS OF BULK AT MOST 1048576: true; the input reads as it did. -/
def certifyKeepsBoundUptoRow : OpenClaim := { program := "ytphneoieanklbaagreat", sum := "ab765567513105243bd1e049752f54946f74a4b3fe104b725d812829fa89c221", func := "gridmarket/gridmarketlaw12.CertifyKeepsBound", spec := "certifyKeepsBound", apart := false, narrowed := true }
def CertifyKeepsBoundUptoSaid : Prop := certifyKeepsBoundUptoRow.holds Tryz.pinned (OpenSpec.upto certifyKeepsBoundSpec)

/-- 'gridmarketlaw12.CertifyInfeasible', WHERE WHAT IT READS IS OF BULK AT MOST 1048576: true; the input reads as it did. -/
def certifyInfeasibleUptoRow : OpenClaim := { program := "ytphneoieanklbaagreat", sum := "ab765567513105243bd1e049752f54946f74a4b3fe104b725d812829fa89c221", func := "gridmarket/gridmarketlaw12.CertifyInfeasible", spec := "certifyInfeasible", apart := false, narrowed := true }
def CertifyInfeasibleUptoSaid : Prop := certifyInfeasibleUptoRow.holds Tryz.pinned (OpenSpec.upto certifyInfeasibleSpec)

/-- 'gridmarketlaw12.CertifyUnbounded', WHERE WHAT IT READS IS OF BULK AT MOST 1048576: true; the input reads as it did. -/
def certifyUnboundedUptoRow : OpenClaim := { program := "ytphneoieanklbaagreat", sum := "ab765567513105243bd1e049752f54946f74a4b3fe104b725d812829fa89c221", func := "gridmarket/gridmarketlaw12.CertifyUnbounded", spec := "certifyUnbounded", apart := false, narrowed := true }
def CertifyUnboundedUptoSaid : Prop := certifyUnboundedUptoRow.holds Tryz.pinned (OpenSpec.upto certifyUnboundedSpec)

/-- 'gridmarketlaw12.CertifyExact', WHERE WHAT IT READS IS OF BULK AT MOST 1048576: true; the input reads as it did. -/
def certifyExactUptoRow : OpenClaim := { program := "ytphneoieanklbaagreat", sum := "ab765567513105243bd1e049752f54946f74a4b3fe104b725d812829fa89c221", func := "gridmarket/gridmarketlaw12.CertifyExact", spec := "certifyExact", apart := false, narrowed := true }
def CertifyExactUptoSaid : Prop := certifyExactUptoRow.holds Tryz.pinned (OpenSpec.upto certifyExactSpec)

/-- 'gridmarketlaw12.CertifyOneStatus', WHERE WHAT IT READS IS OF BULK AT MOST 1048576: true; the input reads as it did. -/
def certifyOneStatusUptoRow : OpenClaim := { program := "ytphneoieanklbaagreat", sum := "ab765567513105243bd1e049752f54946f74a4b3fe104b725d812829fa89c221", func := "gridmarket/gridmarketlaw12.CertifyOneStatus", spec := "certifyOneStatus", apart := false, narrowed := true }
def CertifyOneStatusUptoSaid : Prop := certifyOneStatusUptoRow.holds Tryz.pinned (OpenSpec.upto certifyOneStatusSpec)

end Rows
end Go.Proofs.YtphneoieanklbaaGreat
