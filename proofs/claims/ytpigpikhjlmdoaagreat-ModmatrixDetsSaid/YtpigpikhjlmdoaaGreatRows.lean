/-
  No cell of these rows narrows 'for every input' (looked for: loops, veiled, ifaces, maps, wideKeys, modest, calm, conditions, laid).
  DERIVED. THE GIVEN ROWS OF THIS SEAT. 4 by the template 'for every input the law returns true; each argument reads behind the call as it read before'; 0 by the template 'total and deterministic' (their statements: YtpigpikhjlmdoaaGreatTotals.lean).
  GIVEN WITH THE SEED: the statements are not yours to turn. If you find one false, say at which input.
  Laid BY PROGRAM, IN A SANDBOX (cutbox-rows.mjs): the forced cells as the released guide's own fill.sh prints them over the translation 02f3362182e29375… (all of the seat's roots in one cut). By AI agents, Wed Nov 11 2026. No macro, syntax, notation, axiom, sorry.
-/
import Derived.Test.YtpigpikhjlmdoaaGreatChecked
import GoSem.Claim
import GoSem.ClaimJoined
import GoSem.ClaimMapViews
import Derived.JoinedTies
import Derived.KernelRfl
namespace Go.Proofs.YtpigpikhjlmdoaaGreat
/- THE CELL 'sum', in the pinned program and in every row, IS THE sha256 OF THE DUMP (.gsa) THAT YtpigpikhjlmdoaaGreatProg.lean LOADS. Nothing in Lean hashes anything: it is a label: what it is worth is what the hold of that sum in a sandbox is worth. -/
noncomputable def Tryz.pinned : Pinned := { name := "ytpigpikhjlmdoaagreat", sum := "02f3362182e29375ec59e773c8c7fcf988dc9e7cb7ade79dc45a691398363b65", checked := Tryz.checked }
namespace Rows
def none {H : Type} : Left H := { results := [], args := [] }

/-- 'halfplanelaw13.ModmatrixReduces': WHATEVER THE INPUT: true; the input reads as it did. -/
def modmatrixReducesSpec : ChangeSpec := { name := "modmatrixReduces", fn := fun _ => fun
  | [d1, d2] => { results := [.lit (.bool true)], args := [d1, d2] }
  | _ => none }
def modmatrixReducesRow : OpenClaim := { program := "ytpigpikhjlmdoaagreat", sum := "02f3362182e29375ec59e773c8c7fcf988dc9e7cb7ade79dc45a691398363b65", func := "halfplane/halfplanelaw13.ModmatrixReduces", spec := "modmatrixReduces", named := ["math/bits.overflowError"], apart := false }
def ModmatrixReducesSaid : Prop := modmatrixReducesRow.holds Tryz.pinned (OpenSpec.ofChange modmatrixReducesSpec)

/-- ITS FALSE NEIGHBOUR: 'it returns false'. Refute it at one input. -/
def modmatrixReducesWrong : ChangeSpec := { name := "modmatrixReduces", fn := fun _ => fun
  | [d1, d2] => { results := [.lit (.bool false)], args := [d1, d2] }
  | _ => none }
def ModmatrixReducesWrongFalsely : Prop := modmatrixReducesRow.holds Tryz.pinned (OpenSpec.ofChange modmatrixReducesWrong)

/-- 'halfplanelaw13.ModmatrixOperations': WHATEVER THE INPUT: true; the input reads as it did. -/
def modmatrixOperationsSpec : ChangeSpec := { name := "modmatrixOperations", fn := fun _ => fun
  | [d1, d2, d3] => { results := [.lit (.bool true)], args := [d1, d2, d3] }
  | _ => none }
def modmatrixOperationsRow : OpenClaim := { program := "ytpigpikhjlmdoaagreat", sum := "02f3362182e29375ec59e773c8c7fcf988dc9e7cb7ade79dc45a691398363b65", func := "halfplane/halfplanelaw13.ModmatrixOperations", spec := "modmatrixOperations", recurses := true, named := ["math/bits.overflowError"], apart := false }
def ModmatrixOperationsSaid : Prop := modmatrixOperationsRow.holds Tryz.pinned (OpenSpec.ofChange modmatrixOperationsSpec)

/-- ITS FALSE NEIGHBOUR: 'it returns false'. Refute it at one input. -/
def modmatrixOperationsWrong : ChangeSpec := { name := "modmatrixOperations", fn := fun _ => fun
  | [d1, d2, d3] => { results := [.lit (.bool false)], args := [d1, d2, d3] }
  | _ => none }
def ModmatrixOperationsWrongFalsely : Prop := modmatrixOperationsRow.holds Tryz.pinned (OpenSpec.ofChange modmatrixOperationsWrong)

/-- 'halfplanelaw13.ModmatrixDets': WHATEVER THE INPUT: true; the input reads as it did. -/
def modmatrixDetsSpec : ChangeSpec := { name := "modmatrixDets", fn := fun _ => fun
  | [d] => { results := [.lit (.bool true)], args := [d] }
  | _ => none }
def modmatrixDetsRow : OpenClaim := { program := "ytpigpikhjlmdoaagreat", sum := "02f3362182e29375ec59e773c8c7fcf988dc9e7cb7ade79dc45a691398363b65", func := "halfplane/halfplanelaw13.ModmatrixDets", spec := "modmatrixDets", recurses := true, named := ["math/bits.overflowError"], apart := false }
def ModmatrixDetsSaid : Prop := modmatrixDetsRow.holds Tryz.pinned (OpenSpec.ofChange modmatrixDetsSpec)

/-- ITS FALSE NEIGHBOUR: 'it returns false'. Refute it at one input. -/
def modmatrixDetsWrong : ChangeSpec := { name := "modmatrixDets", fn := fun _ => fun
  | [d] => { results := [.lit (.bool false)], args := [d] }
  | _ => none }
def ModmatrixDetsWrongFalsely : Prop := modmatrixDetsRow.holds Tryz.pinned (OpenSpec.ofChange modmatrixDetsWrong)

/-- 'halfplanelaw13.ModmatrixReduction': WHATEVER THE INPUT: true; the input reads as it did. -/
def modmatrixReductionSpec : ChangeSpec := { name := "modmatrixReduction", fn := fun _ => fun
  | [d1, d2, d3] => { results := [.lit (.bool true)], args := [d1, d2, d3] }
  | _ => none }
def modmatrixReductionRow : OpenClaim := { program := "ytpigpikhjlmdoaagreat", sum := "02f3362182e29375ec59e773c8c7fcf988dc9e7cb7ade79dc45a691398363b65", func := "halfplane/halfplanelaw13.ModmatrixReduction", spec := "modmatrixReduction", recurses := true, named := ["math/bits.overflowError"], apart := false }
def ModmatrixReductionSaid : Prop := modmatrixReductionRow.holds Tryz.pinned (OpenSpec.ofChange modmatrixReductionSpec)

/-- ITS FALSE NEIGHBOUR: 'it returns false'. Refute it at one input. -/
def modmatrixReductionWrong : ChangeSpec := { name := "modmatrixReduction", fn := fun _ => fun
  | [d1, d2, d3] => { results := [.lit (.bool false)], args := [d1, d2, d3] }
  | _ => none }
def ModmatrixReductionWrongFalsely : Prop := modmatrixReductionRow.holds Tryz.pinned (OpenSpec.ofChange modmatrixReductionWrong)

/- THE SECOND FORM. 'bulk': how many values and letters a reading holds, each counted each time it is reached (what is shared counts as often as it is met; a slice's spare places count too). A statement '..UptoSaid' is the law's where the arguments, and the package variables that the reading takes, are together of bulk at most 1048576: NARROWER than '..Said'. Prove '..Said' where nothing that the law and all that it calls make is longer than what came in: it says more and counts as full. Else prove '..UptoSaid'. A law counts once. -/
mutual
def uptoBulk {H : Type} : DataW H → Nat
  | .lit (.string bytes) => bytes.length + 1
  | .lit _ => 1
  | .nil => 1
  | .ptr d => uptoBulk d + 1
  | .slice elems spare => uptoBulkAll elems + uptoBulkAll spare + 1
  | .agg parts => uptoBulkAll parts + 1
  | .iface _ d => uptoBulk d + 1
  | .map entries => uptoBulkEntries entries + 1
  | .held _ => 1
def uptoBulkAll {H : Type} : List (DataW H) → Nat
  | [] => 0
  | d :: r => uptoBulk d + uptoBulkAll r
def uptoBulkEntries {H : Type} : List (Lit × DataW H) → Nat
  | [] => 0
  | x :: r => uptoBulkEntry x + uptoBulkEntries r
def uptoBulkEntry {H : Type} : Lit × DataW H → Nat
  | (.string bytes, d) => bytes.length + uptoBulk d + 1
  | (_, d) => uptoBulk d + 1
 end
def uptoSmall : (H : Type) → List (DataW H) → Bool := fun _ ds => decide (uptoBulkAll ds ≤ 1048576)
def OpenSpec.upto (s : _root_.Go.ChangeSpec) : _root_.Go.OpenSpec := { _root_.Go.OpenSpec.ofChange s with cond := some uptoSmall }

/-- 'halfplanelaw13.ModmatrixReduces', WHERE WHAT IT READS IS OF BULK AT MOST 1048576: true; the input reads as it did. -/
def modmatrixReducesUptoRow : OpenClaim := { program := "ytpigpikhjlmdoaagreat", sum := "02f3362182e29375ec59e773c8c7fcf988dc9e7cb7ade79dc45a691398363b65", func := "halfplane/halfplanelaw13.ModmatrixReduces", spec := "modmatrixReduces", named := ["math/bits.overflowError"], apart := false, narrowed := true }
def ModmatrixReducesUptoSaid : Prop := modmatrixReducesUptoRow.holds Tryz.pinned (OpenSpec.upto modmatrixReducesSpec)

/-- 'halfplanelaw13.ModmatrixOperations', WHERE WHAT IT READS IS OF BULK AT MOST 1048576: true; the input reads as it did. -/
def modmatrixOperationsUptoRow : OpenClaim := { program := "ytpigpikhjlmdoaagreat", sum := "02f3362182e29375ec59e773c8c7fcf988dc9e7cb7ade79dc45a691398363b65", func := "halfplane/halfplanelaw13.ModmatrixOperations", spec := "modmatrixOperations", recurses := true, named := ["math/bits.overflowError"], apart := false, narrowed := true }
def ModmatrixOperationsUptoSaid : Prop := modmatrixOperationsUptoRow.holds Tryz.pinned (OpenSpec.upto modmatrixOperationsSpec)

/-- 'halfplanelaw13.ModmatrixDets', WHERE WHAT IT READS IS OF BULK AT MOST 1048576: true; the input reads as it did. -/
def modmatrixDetsUptoRow : OpenClaim := { program := "ytpigpikhjlmdoaagreat", sum := "02f3362182e29375ec59e773c8c7fcf988dc9e7cb7ade79dc45a691398363b65", func := "halfplane/halfplanelaw13.ModmatrixDets", spec := "modmatrixDets", recurses := true, named := ["math/bits.overflowError"], apart := false, narrowed := true }
def ModmatrixDetsUptoSaid : Prop := modmatrixDetsUptoRow.holds Tryz.pinned (OpenSpec.upto modmatrixDetsSpec)

/-- 'halfplanelaw13.ModmatrixReduction', WHERE WHAT IT READS IS OF BULK AT MOST 1048576: true; the input reads as it did. -/
def modmatrixReductionUptoRow : OpenClaim := { program := "ytpigpikhjlmdoaagreat", sum := "02f3362182e29375ec59e773c8c7fcf988dc9e7cb7ade79dc45a691398363b65", func := "halfplane/halfplanelaw13.ModmatrixReduction", spec := "modmatrixReduction", recurses := true, named := ["math/bits.overflowError"], apart := false, narrowed := true }
def ModmatrixReductionUptoSaid : Prop := modmatrixReductionUptoRow.holds Tryz.pinned (OpenSpec.upto modmatrixReductionSpec)

end Rows
end Go.Proofs.YtpigpikhjlmdoaaGreat
