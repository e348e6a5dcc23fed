/-
  No cell of these rows narrows 'for every input' (looked for: loops, veiled, ifaces, maps, wideKeys, modest, calm, conditions, laid).
  DERIVED. THE GIVEN ROWS OF THIS SEAT. 10 by the template 'for every input the law returns true; each argument reads behind the call as it read before'; 0 by the template 'total and deterministic' (their statements: YtjfkodlddladhaaGreatTotals.lean).
  GIVEN WITH THE SEED: the statements are not yours to turn. If you find one false, say at which input.
  Laid BY PROGRAM, IN A SANDBOX (cutbox-rows.mjs): the forced cells as the released guide's own fill.sh prints them over the translation 45762b00b6476378… (all of the seat's roots in one cut). By AI agents, Wed Nov 11 2026. No macro, syntax, notation, axiom, sorry.
-/
import Derived.Test.YtjfkodlddladhaaGreatChecked
import GoSem.Claim
import GoSem.ClaimJoined
import GoSem.ClaimMapViews
import Derived.JoinedTies
import Derived.KernelRfl
namespace Go.Proofs.YtjfkodlddladhaaGreat
/- THE CELL 'sum', in the pinned program and in every row, IS THE sha256 OF THE DUMP (.gsa) THAT YtjfkodlddladhaaGreatProg.lean LOADS. Nothing in Lean hashes anything: it is a label: what it is worth is what the hold of that sum in a sandbox is worth. -/
noncomputable def Tryz.pinned : Pinned := { name := "ytjfkodlddladhaagreat", sum := "45762b00b64763788b578b2d185fb5f726cd0b59e868cc42e7b1eb6d95abc289", checked := Tryz.checked }
namespace Rows
def none {H : Type} : Left H := { results := [], args := [] }

/-- 'halfplanelaw36.ThetaExpansions': WHATEVER THE INPUT: true; the input reads as it did. -/
def thetaExpansionsSpec : ChangeSpec := { name := "thetaExpansions", fn := fun _ => fun
  | [d1, d2] => { results := [.lit (.bool true)], args := [d1, d2] }
  | _ => none }
def thetaExpansionsRow : OpenClaim := { program := "ytjfkodlddladhaagreat", sum := "45762b00b64763788b578b2d185fb5f726cd0b59e868cc42e7b1eb6d95abc289", func := "halfplane/halfplanelaw36.ThetaExpansions", spec := "thetaExpansions", unfollowed := true, recurses := true, named := ["math/bits.overflowError"], plainKeys := false, apart := false }
def ThetaExpansionsSaid : Prop := thetaExpansionsRow.holds Tryz.pinned (OpenSpec.ofChange thetaExpansionsSpec)

/-- ITS FALSE NEIGHBOUR: 'it returns false'. Refute it at one input. -/
def thetaExpansionsWrong : ChangeSpec := { name := "thetaExpansions", fn := fun _ => fun
  | [d1, d2] => { results := [.lit (.bool false)], args := [d1, d2] }
  | _ => none }
def ThetaExpansionsWrongFalsely : Prop := thetaExpansionsRow.holds Tryz.pinned (OpenSpec.ofChange thetaExpansionsWrong)

/-- 'halfplanelaw36.ThetaSquares': WHATEVER THE INPUT: true; the input reads as it did. -/
def thetaSquaresSpec : ChangeSpec := { name := "thetaSquares", fn := fun _ => fun
  | [d] => { results := [.lit (.bool true)], args := [d] }
  | _ => none }
def thetaSquaresRow : OpenClaim := { program := "ytjfkodlddladhaagreat", sum := "45762b00b64763788b578b2d185fb5f726cd0b59e868cc42e7b1eb6d95abc289", func := "halfplane/halfplanelaw36.ThetaSquares", spec := "thetaSquares", unfollowed := true, recurses := true, named := ["math/bits.overflowError"], plainKeys := false, apart := false }
def ThetaSquaresSaid : Prop := thetaSquaresRow.holds Tryz.pinned (OpenSpec.ofChange thetaSquaresSpec)

/-- ITS FALSE NEIGHBOUR: 'it returns false'. Refute it at one input. -/
def thetaSquaresWrong : ChangeSpec := { name := "thetaSquares", fn := fun _ => fun
  | [d] => { results := [.lit (.bool false)], args := [d] }
  | _ => none }
def ThetaSquaresWrongFalsely : Prop := thetaSquaresRow.holds Tryz.pinned (OpenSpec.ofChange thetaSquaresWrong)

/-- 'halfplanelaw36.ThetaVectors': WHATEVER THE INPUT: true; the input reads as it did. -/
def thetaVectorsSpec : ChangeSpec := { name := "thetaVectors", fn := fun _ => fun
  | [d1, d2] => { results := [.lit (.bool true)], args := [d1, d2] }
  | _ => none }
def thetaVectorsRow : OpenClaim := { program := "ytjfkodlddladhaagreat", sum := "45762b00b64763788b578b2d185fb5f726cd0b59e868cc42e7b1eb6d95abc289", func := "halfplane/halfplanelaw36.ThetaVectors", spec := "thetaVectors", unfollowed := true, recurses := true, named := ["math/bits.overflowError"], plainKeys := false, apart := false }
def ThetaVectorsSaid : Prop := thetaVectorsRow.holds Tryz.pinned (OpenSpec.ofChange thetaVectorsSpec)

/-- ITS FALSE NEIGHBOUR: 'it returns false'. Refute it at one input. -/
def thetaVectorsWrong : ChangeSpec := { name := "thetaVectors", fn := fun _ => fun
  | [d1, d2] => { results := [.lit (.bool false)], args := [d1, d2] }
  | _ => none }
def ThetaVectorsWrongFalsely : Prop := thetaVectorsRow.holds Tryz.pinned (OpenSpec.ofChange thetaVectorsWrong)

/-- 'halfplanelaw36.ThetaBinary': WHATEVER THE INPUT: true; the input reads as it did. -/
def thetaBinarySpec : ChangeSpec := { name := "thetaBinary", fn := fun _ => fun
  | [d] => { results := [.lit (.bool true)], args := [d] }
  | _ => none }
def thetaBinaryRow : OpenClaim := { program := "ytjfkodlddladhaagreat", sum := "45762b00b64763788b578b2d185fb5f726cd0b59e868cc42e7b1eb6d95abc289", func := "halfplane/halfplanelaw36.ThetaBinary", spec := "thetaBinary", unfollowed := true, recurses := true, named := ["math/bits.overflowError"], plainKeys := false, apart := false }
def ThetaBinarySaid : Prop := thetaBinaryRow.holds Tryz.pinned (OpenSpec.ofChange thetaBinarySpec)

/-- ITS FALSE NEIGHBOUR: 'it returns false'. Refute it at one input. -/
def thetaBinaryWrong : ChangeSpec := { name := "thetaBinary", fn := fun _ => fun
  | [d] => { results := [.lit (.bool false)], args := [d] }
  | _ => none }
def ThetaBinaryWrongFalsely : Prop := thetaBinaryRow.holds Tryz.pinned (OpenSpec.ofChange thetaBinaryWrong)

/-- 'halfplanelaw36.ThetaCounts': WHATEVER THE INPUT: true; the input reads as it did. -/
def thetaCountsSpec : ChangeSpec := { name := "thetaCounts", fn := fun _ => fun
  | [d1, d2] => { results := [.lit (.bool true)], args := [d1, d2] }
  | _ => none }
def thetaCountsRow : OpenClaim := { program := "ytjfkodlddladhaagreat", sum := "45762b00b64763788b578b2d185fb5f726cd0b59e868cc42e7b1eb6d95abc289", func := "halfplane/halfplanelaw36.ThetaCounts", spec := "thetaCounts", unfollowed := true, recurses := true, named := ["math/bits.overflowError"], plainKeys := false, apart := false }
def ThetaCountsSaid : Prop := thetaCountsRow.holds Tryz.pinned (OpenSpec.ofChange thetaCountsSpec)

/-- ITS FALSE NEIGHBOUR: 'it returns false'. Refute it at one input. -/
def thetaCountsWrong : ChangeSpec := { name := "thetaCounts", fn := fun _ => fun
  | [d1, d2] => { results := [.lit (.bool false)], args := [d1, d2] }
  | _ => none }
def ThetaCountsWrongFalsely : Prop := thetaCountsRow.holds Tryz.pinned (OpenSpec.ofChange thetaCountsWrong)

/-- 'halfplanelaw36.ThetaHarmonic': WHATEVER THE INPUT: true; the input reads as it did. -/
def thetaHarmonicSpec : ChangeSpec := { name := "thetaHarmonic", fn := fun _ => fun
  | [d] => { results := [.lit (.bool true)], args := [d] }
  | _ => none }
def thetaHarmonicRow : OpenClaim := { program := "ytjfkodlddladhaagreat", sum := "45762b00b64763788b578b2d185fb5f726cd0b59e868cc42e7b1eb6d95abc289", func := "halfplane/halfplanelaw36.ThetaHarmonic", spec := "thetaHarmonic", unfollowed := true, recurses := true, named := ["math/bits.overflowError"], plainKeys := false, apart := false }
def ThetaHarmonicSaid : Prop := thetaHarmonicRow.holds Tryz.pinned (OpenSpec.ofChange thetaHarmonicSpec)

/-- ITS FALSE NEIGHBOUR: 'it returns false'. Refute it at one input. -/
def thetaHarmonicWrong : ChangeSpec := { name := "thetaHarmonic", fn := fun _ => fun
  | [d] => { results := [.lit (.bool false)], args := [d] }
  | _ => none }
def ThetaHarmonicWrongFalsely : Prop := thetaHarmonicRow.holds Tryz.pinned (OpenSpec.ofChange thetaHarmonicWrong)

/-- 'halfplanelaw36.ThetaForms': WHATEVER THE INPUT: true; the input reads as it did. -/
def thetaFormsSpec : ChangeSpec := { name := "thetaForms", fn := fun _ => fun
  | [d] => { results := [.lit (.bool true)], args := [d] }
  | _ => none }
def thetaFormsRow : OpenClaim := { program := "ytjfkodlddladhaagreat", sum := "45762b00b64763788b578b2d185fb5f726cd0b59e868cc42e7b1eb6d95abc289", func := "halfplane/halfplanelaw36.ThetaForms", spec := "thetaForms", unfollowed := true, recurses := true, named := ["math/bits.overflowError"], plainKeys := false, apart := false }
def ThetaFormsSaid : Prop := thetaFormsRow.holds Tryz.pinned (OpenSpec.ofChange thetaFormsSpec)

/-- ITS FALSE NEIGHBOUR: 'it returns false'. Refute it at one input. -/
def thetaFormsWrong : ChangeSpec := { name := "thetaForms", fn := fun _ => fun
  | [d] => { results := [.lit (.bool false)], args := [d] }
  | _ => none }
def ThetaFormsWrongFalsely : Prop := thetaFormsRow.holds Tryz.pinned (OpenSpec.ofChange thetaFormsWrong)

/-- 'halfplanelaw36.ThetaSums': WHATEVER THE INPUT: true; the input reads as it did. -/
def thetaSumsSpec : ChangeSpec := { name := "thetaSums", fn := fun _ => fun
  | [d1, d2, d3] => { results := [.lit (.bool true)], args := [d1, d2, d3] }
  | _ => none }
def thetaSumsRow : OpenClaim := { program := "ytjfkodlddladhaagreat", sum := "45762b00b64763788b578b2d185fb5f726cd0b59e868cc42e7b1eb6d95abc289", func := "halfplane/halfplanelaw36.ThetaSums", spec := "thetaSums", unfollowed := true, recurses := true, named := ["math/bits.overflowError"], plainKeys := false, apart := false }
def ThetaSumsSaid : Prop := thetaSumsRow.holds Tryz.pinned (OpenSpec.ofChange thetaSumsSpec)

/-- ITS FALSE NEIGHBOUR: 'it returns false'. Refute it at one input. -/
def thetaSumsWrong : ChangeSpec := { name := "thetaSums", fn := fun _ => fun
  | [d1, d2, d3] => { results := [.lit (.bool false)], args := [d1, d2, d3] }
  | _ => none }
def ThetaSumsWrongFalsely : Prop := thetaSumsRow.holds Tryz.pinned (OpenSpec.ofChange thetaSumsWrong)

/-- 'halfplanelaw36.ThetaOperations': WHATEVER THE INPUT: true; the input reads as it did. -/
def thetaOperationsSpec : ChangeSpec := { name := "thetaOperations", fn := fun _ => fun
  | [d1, d2, d3] => { results := [.lit (.bool true)], args := [d1, d2, d3] }
  | _ => none }
def thetaOperationsRow : OpenClaim := { program := "ytjfkodlddladhaagreat", sum := "45762b00b64763788b578b2d185fb5f726cd0b59e868cc42e7b1eb6d95abc289", func := "halfplane/halfplanelaw36.ThetaOperations", spec := "thetaOperations", unfollowed := true, recurses := true, named := ["math/bits.overflowError"], plainKeys := false, apart := false }
def ThetaOperationsSaid : Prop := thetaOperationsRow.holds Tryz.pinned (OpenSpec.ofChange thetaOperationsSpec)

/-- ITS FALSE NEIGHBOUR: 'it returns false'. Refute it at one input. -/
def thetaOperationsWrong : ChangeSpec := { name := "thetaOperations", fn := fun _ => fun
  | [d1, d2, d3] => { results := [.lit (.bool false)], args := [d1, d2, d3] }
  | _ => none }
def ThetaOperationsWrongFalsely : Prop := thetaOperationsRow.holds Tryz.pinned (OpenSpec.ofChange thetaOperationsWrong)

/-- 'halfplanelaw36.ThetaInvariant': WHATEVER THE INPUT: true; the input reads as it did. -/
def thetaInvariantSpec : ChangeSpec := { name := "thetaInvariant", fn := fun _ => fun
  | [d1, d2, d3] => { results := [.lit (.bool true)], args := [d1, d2, d3] }
  | _ => none }
def thetaInvariantRow : OpenClaim := { program := "ytjfkodlddladhaagreat", sum := "45762b00b64763788b578b2d185fb5f726cd0b59e868cc42e7b1eb6d95abc289", func := "halfplane/halfplanelaw36.ThetaInvariant", spec := "thetaInvariant", unfollowed := true, recurses := true, named := ["math/bits.overflowError"], plainKeys := false, apart := false }
def ThetaInvariantSaid : Prop := thetaInvariantRow.holds Tryz.pinned (OpenSpec.ofChange thetaInvariantSpec)

/-- ITS FALSE NEIGHBOUR: 'it returns false'. Refute it at one input. -/
def thetaInvariantWrong : ChangeSpec := { name := "thetaInvariant", fn := fun _ => fun
  | [d1, d2, d3] => { results := [.lit (.bool false)], args := [d1, d2, d3] }
  | _ => none }
def ThetaInvariantWrongFalsely : Prop := thetaInvariantRow.holds Tryz.pinned (OpenSpec.ofChange thetaInvariantWrong)

/- THE SECOND FORM. 'bulk': how many values and letters a reading holds, each counted each time it is reached (what is shared counts as often as it is met; a slice's spare places count too). A statement '..UptoSaid' is the law's where the arguments, and the package variables that the reading takes, are together of bulk at most 1048576: NARROWER than '..Said'. Prove '..Said' where nothing that the law and all that it calls make is longer than what came in: it says more and counts as full. Else prove '..UptoSaid'. A law counts once. -/
mutual
def uptoBulk {H : Type} : DataW H → Nat
  | .lit (.string bytes) => bytes.length + 1
  | .lit _ => 1
  | .nil => 1
  | .ptr d => uptoBulk d + 1
  | .slice elems spare => uptoBulkAll elems + uptoBulkAll spare + 1
  | .agg parts => uptoBulkAll parts + 1
  | .iface _ d => uptoBulk d + 1
  | .map entries => uptoBulkEntries entries + 1
  | .held _ => 1
def uptoBulkAll {H : Type} : List (DataW H) → Nat
  | [] => 0
  | d :: r => uptoBulk d + uptoBulkAll r
def uptoBulkEntries {H : Type} : List (Lit × DataW H) → Nat
  | [] => 0
  | x :: r => uptoBulkEntry x + uptoBulkEntries r
def uptoBulkEntry {H : Type} : Lit × DataW H → Nat
  | (.string bytes, d) => bytes.length + uptoBulk d + 1
  | (_, d) => uptoBulk d + 1
 end
def uptoSmall : (H : Type) → List (DataW H) → Bool := fun _ ds => decide (uptoBulkAll ds ≤ 1048576)
def OpenSpec.upto (s : _root_.Go.ChangeSpec) : _root_.Go.OpenSpec := { _root_.Go.OpenSpec.ofChange s with cond := some uptoSmall }

/-- 'halfplanelaw36.ThetaExpansions', WHERE WHAT IT READS IS OF BULK AT MOST 1048576: true; the input reads as it did. -/
def thetaExpansionsUptoRow : OpenClaim := { program := "ytjfkodlddladhaagreat", sum := "45762b00b64763788b578b2d185fb5f726cd0b59e868cc42e7b1eb6d95abc289", func := "halfplane/halfplanelaw36.ThetaExpansions", spec := "thetaExpansions", unfollowed := true, recurses := true, named := ["math/bits.overflowError"], plainKeys := false, apart := false, narrowed := true }
def ThetaExpansionsUptoSaid : Prop := thetaExpansionsUptoRow.holds Tryz.pinned (OpenSpec.upto thetaExpansionsSpec)

/-- 'halfplanelaw36.ThetaSquares', WHERE WHAT IT READS IS OF BULK AT MOST 1048576: true; the input reads as it did. -/
def thetaSquaresUptoRow : OpenClaim := { program := "ytjfkodlddladhaagreat", sum := "45762b00b64763788b578b2d185fb5f726cd0b59e868cc42e7b1eb6d95abc289", func := "halfplane/halfplanelaw36.ThetaSquares", spec := "thetaSquares", unfollowed := true, recurses := true, named := ["math/bits.overflowError"], plainKeys := false, apart := false, narrowed := true }
def ThetaSquaresUptoSaid : Prop := thetaSquaresUptoRow.holds Tryz.pinned (OpenSpec.upto thetaSquaresSpec)

/-- 'halfplanelaw36.ThetaVectors', WHERE WHAT IT READS IS OF BULK AT MOST 1048576: true; the input reads as it did. -/
def thetaVectorsUptoRow : OpenClaim := { program := "ytjfkodlddladhaagreat", sum := "45762b00b64763788b578b2d185fb5f726cd0b59e868cc42e7b1eb6d95abc289", func := "halfplane/halfplanelaw36.ThetaVectors", spec := "thetaVectors", unfollowed := true, recurses := true, named := ["math/bits.overflowError"], plainKeys := false, apart := false, narrowed := true }
def ThetaVectorsUptoSaid : Prop := thetaVectorsUptoRow.holds Tryz.pinned (OpenSpec.upto thetaVectorsSpec)

/-- 'halfplanelaw36.ThetaBinary', WHERE WHAT IT READS IS OF BULK AT MOST 1048576: true; the input reads as it did. -/
def thetaBinaryUptoRow : OpenClaim := { program := "ytjfkodlddladhaagreat", sum := "45762b00b64763788b578b2d185fb5f726cd0b59e868cc42e7b1eb6d95abc289", func := "halfplane/halfplanelaw36.ThetaBinary", spec := "thetaBinary", unfollowed := true, recurses := true, named := ["math/bits.overflowError"], plainKeys := false, apart := false, narrowed := true }
def ThetaBinaryUptoSaid : Prop := thetaBinaryUptoRow.holds Tryz.pinned (OpenSpec.upto thetaBinarySpec)

/-- 'halfplanelaw36.ThetaCounts', WHERE WHAT IT READS IS OF BULK AT MOST 1048576: true; the input reads as it did. -/
def thetaCountsUptoRow : OpenClaim := { program := "ytjfkodlddladhaagreat", sum := "45762b00b64763788b578b2d185fb5f726cd0b59e868cc42e7b1eb6d95abc289", func := "halfplane/halfplanelaw36.ThetaCounts", spec := "thetaCounts", unfollowed := true, recurses := true, named := ["math/bits.overflowError"], plainKeys := false, apart := false, narrowed := true }
def ThetaCountsUptoSaid : Prop := thetaCountsUptoRow.holds Tryz.pinned (OpenSpec.upto thetaCountsSpec)

/-- 'halfplanelaw36.ThetaHarmonic', WHERE WHAT IT READS IS OF BULK AT MOST 1048576: true; the input reads as it did. -/
def thetaHarmonicUptoRow : OpenClaim := { program := "ytjfkodlddladhaagreat", sum := "45762b00b64763788b578b2d185fb5f726cd0b59e868cc42e7b1eb6d95abc289", func := "halfplane/halfplanelaw36.ThetaHarmonic", spec := "thetaHarmonic", unfollowed := true, recurses := true, named := ["math/bits.overflowError"], plainKeys := false, apart := false, narrowed := true }
def ThetaHarmonicUptoSaid : Prop := thetaHarmonicUptoRow.holds Tryz.pinned (OpenSpec.upto thetaHarmonicSpec)

/-- 'halfplanelaw36.ThetaForms', WHERE WHAT IT READS IS OF BULK AT MOST 1048576: true; the input reads as it did. -/
def thetaFormsUptoRow : OpenClaim := { program := "ytjfkodlddladhaagreat", sum := "45762b00b64763788b578b2d185fb5f726cd0b59e868cc42e7b1eb6d95abc289", func := "halfplane/halfplanelaw36.ThetaForms", spec := "thetaForms", unfollowed := true, recurses := true, named := ["math/bits.overflowError"], plainKeys := false, apart := false, narrowed := true }
def ThetaFormsUptoSaid : Prop := thetaFormsUptoRow.holds Tryz.pinned (OpenSpec.upto thetaFormsSpec)

/-- 'halfplanelaw36.ThetaSums', WHERE WHAT IT READS IS OF BULK AT MOST 1048576: true; the input reads as it did. -/
def thetaSumsUptoRow : OpenClaim := { program := "ytjfkodlddladhaagreat", sum := "45762b00b64763788b578b2d185fb5f726cd0b59e868cc42e7b1eb6d95abc289", func := "halfplane/halfplanelaw36.ThetaSums", spec := "thetaSums", unfollowed := true, recurses := true, named := ["math/bits.overflowError"], plainKeys := false, apart := false, narrowed := true }
def ThetaSumsUptoSaid : Prop := thetaSumsUptoRow.holds Tryz.pinned (OpenSpec.upto thetaSumsSpec)

/-- 'halfplanelaw36.ThetaOperations', WHERE WHAT IT READS IS OF BULK AT MOST 1048576: true; the input reads as it did. -/
def thetaOperationsUptoRow : OpenClaim := { program := "ytjfkodlddladhaagreat", sum := "45762b00b64763788b578b2d185fb5f726cd0b59e868cc42e7b1eb6d95abc289", func := "halfplane/halfplanelaw36.ThetaOperations", spec := "thetaOperations", unfollowed := true, recurses := true, named := ["math/bits.overflowError"], plainKeys := false, apart := false, narrowed := true }
def ThetaOperationsUptoSaid : Prop := thetaOperationsUptoRow.holds Tryz.pinned (OpenSpec.upto thetaOperationsSpec)

/-- 'halfplanelaw36.ThetaInvariant', WHERE WHAT IT READS IS OF BULK AT MOST 1048576: true; the input reads as it did. -/
def thetaInvariantUptoRow : OpenClaim := { program := "ytjfkodlddladhaagreat", sum := "45762b00b64763788b578b2d185fb5f726cd0b59e868cc42e7b1eb6d95abc289", func := "halfplane/halfplanelaw36.ThetaInvariant", spec := "thetaInvariant", unfollowed := true, recurses := true, named := ["math/bits.overflowError"], plainKeys := false, apart := false, narrowed := true }
def ThetaInvariantUptoSaid : Prop := thetaInvariantUptoRow.holds Tryz.pinned (OpenSpec.upto thetaInvariantSpec)

end Rows
end Go.Proofs.YtjfkodlddladhaaGreat
