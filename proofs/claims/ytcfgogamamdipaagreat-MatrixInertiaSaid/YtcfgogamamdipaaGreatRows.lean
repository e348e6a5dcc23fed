/-
  No cell of these rows narrows 'for every input' (looked for: loops, veiled, ifaces, maps, wideKeys, modest, calm, conditions, laid).
  DERIVED. THE GIVEN ROWS OF THIS SEAT. 9 by the template 'for every input the law returns true; each argument reads behind the call as it read before'; 0 by the template 'total and deterministic' (their statements: YtcfgogamamdipaaGreatTotals.lean).
  GIVEN WITH THE SEED: the statements are not yours to turn. If you find one false, say at which input.
  Laid BY PROGRAM, IN A SANDBOX (cutbox-rows.mjs): the forced cells as the released guide's own fill.sh prints them over the translation f88c03408ecdb96c… (all of the seat's roots in one cut). By AI agents, Wed Nov 11 2026. No macro, syntax, notation, axiom, sorry.
-/
import Derived.Test.YtcfgogamamdipaaGreatChecked
import GoSem.Claim
import GoSem.ClaimJoined
import GoSem.ClaimMapViews
import Derived.JoinedTies
import Derived.KernelRfl
namespace Go.Proofs.YtcfgogamamdipaaGreat
/- THE CELL 'sum', in the pinned program and in every row, IS THE sha256 OF THE DUMP (.gsa) THAT YtcfgogamamdipaaGreatProg.lean LOADS. Nothing in Lean hashes anything: it is a label: what it is worth is what the hold of that sum in a sandbox is worth. -/
noncomputable def Tryz.pinned : Pinned := { name := "ytcfgogamamdipaagreat", sum := "f88c03408ecdb96c44e23823a876afa75f6f95403f266bda6398f472897f2d57", checked := Tryz.checked }
namespace Rows
def none {H : Type} : Left H := { results := [], args := [] }

/-- 'halfplanelaw09.MatrixDets': WHATEVER THE INPUT: true; the input reads as it did. -/
def matrixDetsSpec : ChangeSpec := { name := "matrixDets", fn := fun _ => fun
  | [d1, d2] => { results := [.lit (.bool true)], args := [d1, d2] }
  | _ => none }
def matrixDetsRow : OpenClaim := { program := "ytcfgogamamdipaagreat", sum := "f88c03408ecdb96c44e23823a876afa75f6f95403f266bda6398f472897f2d57", func := "halfplane/halfplanelaw09.MatrixDets", spec := "matrixDets", recurses := true, named := ["math/bits.overflowError"], apart := false }
def MatrixDetsSaid : Prop := matrixDetsRow.holds Tryz.pinned (OpenSpec.ofChange matrixDetsSpec)

/-- ITS FALSE NEIGHBOUR: 'it returns false'. Refute it at one input. -/
def matrixDetsWrong : ChangeSpec := { name := "matrixDets", fn := fun _ => fun
  | [d1, d2] => { results := [.lit (.bool false)], args := [d1, d2] }
  | _ => none }
def MatrixDetsWrongFalsely : Prop := matrixDetsRow.holds Tryz.pinned (OpenSpec.ofChange matrixDetsWrong)

/-- 'halfplanelaw09.MatrixEchelons': WHATEVER THE INPUT: true; the input reads as it did. -/
def matrixEchelonsSpec : ChangeSpec := { name := "matrixEchelons", fn := fun _ => fun
  | [d1, d2] => { results := [.lit (.bool true)], args := [d1, d2] }
  | _ => none }
def matrixEchelonsRow : OpenClaim := { program := "ytcfgogamamdipaagreat", sum := "f88c03408ecdb96c44e23823a876afa75f6f95403f266bda6398f472897f2d57", func := "halfplane/halfplanelaw09.MatrixEchelons", spec := "matrixEchelons", named := ["math/bits.overflowError"], apart := false }
def MatrixEchelonsSaid : Prop := matrixEchelonsRow.holds Tryz.pinned (OpenSpec.ofChange matrixEchelonsSpec)

/-- ITS FALSE NEIGHBOUR: 'it returns false'. Refute it at one input. -/
def matrixEchelonsWrong : ChangeSpec := { name := "matrixEchelons", fn := fun _ => fun
  | [d1, d2] => { results := [.lit (.bool false)], args := [d1, d2] }
  | _ => none }
def MatrixEchelonsWrongFalsely : Prop := matrixEchelonsRow.holds Tryz.pinned (OpenSpec.ofChange matrixEchelonsWrong)

/-- 'halfplanelaw09.MatrixInverses': WHATEVER THE INPUT: true; the input reads as it did. -/
def matrixInversesSpec : ChangeSpec := { name := "matrixInverses", fn := fun _ => fun
  | [d] => { results := [.lit (.bool true)], args := [d] }
  | _ => none }
def matrixInversesRow : OpenClaim := { program := "ytcfgogamamdipaagreat", sum := "f88c03408ecdb96c44e23823a876afa75f6f95403f266bda6398f472897f2d57", func := "halfplane/halfplanelaw09.MatrixInverses", spec := "matrixInverses", named := ["math/bits.overflowError"], apart := false }
def MatrixInversesSaid : Prop := matrixInversesRow.holds Tryz.pinned (OpenSpec.ofChange matrixInversesSpec)

/-- ITS FALSE NEIGHBOUR: 'it returns false'. Refute it at one input. -/
def matrixInversesWrong : ChangeSpec := { name := "matrixInverses", fn := fun _ => fun
  | [d] => { results := [.lit (.bool false)], args := [d] }
  | _ => none }
def MatrixInversesWrongFalsely : Prop := matrixInversesRow.holds Tryz.pinned (OpenSpec.ofChange matrixInversesWrong)

/-- 'halfplanelaw09.MatrixBuilds': WHATEVER THE INPUT: true; the input reads as it did. -/
def matrixBuildsSpec : ChangeSpec := { name := "matrixBuilds", fn := fun _ => fun
  | [d1, d2, d3] => { results := [.lit (.bool true)], args := [d1, d2, d3] }
  | _ => none }
def matrixBuildsRow : OpenClaim := { program := "ytcfgogamamdipaagreat", sum := "f88c03408ecdb96c44e23823a876afa75f6f95403f266bda6398f472897f2d57", func := "halfplane/halfplanelaw09.MatrixBuilds", spec := "matrixBuilds", named := ["math/bits.overflowError"], apart := false }
def MatrixBuildsSaid : Prop := matrixBuildsRow.holds Tryz.pinned (OpenSpec.ofChange matrixBuildsSpec)

/-- ITS FALSE NEIGHBOUR: 'it returns false'. Refute it at one input. -/
def matrixBuildsWrong : ChangeSpec := { name := "matrixBuilds", fn := fun _ => fun
  | [d1, d2, d3] => { results := [.lit (.bool false)], args := [d1, d2, d3] }
  | _ => none }
def MatrixBuildsWrongFalsely : Prop := matrixBuildsRow.holds Tryz.pinned (OpenSpec.ofChange matrixBuildsWrong)

/-- 'halfplanelaw09.MatrixPowers': WHATEVER THE INPUT: true; the input reads as it did. -/
def matrixPowersSpec : ChangeSpec := { name := "matrixPowers", fn := fun _ => fun
  | [d1, d2, d3] => { results := [.lit (.bool true)], args := [d1, d2, d3] }
  | _ => none }
def matrixPowersRow : OpenClaim := { program := "ytcfgogamamdipaagreat", sum := "f88c03408ecdb96c44e23823a876afa75f6f95403f266bda6398f472897f2d57", func := "halfplane/halfplanelaw09.MatrixPowers", spec := "matrixPowers", named := ["math/bits.overflowError"], apart := false }
def MatrixPowersSaid : Prop := matrixPowersRow.holds Tryz.pinned (OpenSpec.ofChange matrixPowersSpec)

/-- ITS FALSE NEIGHBOUR: 'it returns false'. Refute it at one input. -/
def matrixPowersWrong : ChangeSpec := { name := "matrixPowers", fn := fun _ => fun
  | [d1, d2, d3] => { results := [.lit (.bool false)], args := [d1, d2, d3] }
  | _ => none }
def MatrixPowersWrongFalsely : Prop := matrixPowersRow.holds Tryz.pinned (OpenSpec.ofChange matrixPowersWrong)

/-- 'halfplanelaw09.MatrixSolves': WHATEVER THE INPUT: true; the input reads as it did. -/
def matrixSolvesSpec : ChangeSpec := { name := "matrixSolves", fn := fun _ => fun
  | [d1, d2, d3] => { results := [.lit (.bool true)], args := [d1, d2, d3] }
  | _ => none }
def matrixSolvesRow : OpenClaim := { program := "ytcfgogamamdipaagreat", sum := "f88c03408ecdb96c44e23823a876afa75f6f95403f266bda6398f472897f2d57", func := "halfplane/halfplanelaw09.MatrixSolves", spec := "matrixSolves", named := ["math/bits.overflowError"], apart := false }
def MatrixSolvesSaid : Prop := matrixSolvesRow.holds Tryz.pinned (OpenSpec.ofChange matrixSolvesSpec)

/-- ITS FALSE NEIGHBOUR: 'it returns false'. Refute it at one input. -/
def matrixSolvesWrong : ChangeSpec := { name := "matrixSolves", fn := fun _ => fun
  | [d1, d2, d3] => { results := [.lit (.bool false)], args := [d1, d2, d3] }
  | _ => none }
def MatrixSolvesWrongFalsely : Prop := matrixSolvesRow.holds Tryz.pinned (OpenSpec.ofChange matrixSolvesWrong)

/-- 'halfplanelaw09.MatrixKernels': WHATEVER THE INPUT: true; the input reads as it did. -/
def matrixKernelsSpec : ChangeSpec := { name := "matrixKernels", fn := fun _ => fun
  | [d] => { results := [.lit (.bool true)], args := [d] }
  | _ => none }
def matrixKernelsRow : OpenClaim := { program := "ytcfgogamamdipaagreat", sum := "f88c03408ecdb96c44e23823a876afa75f6f95403f266bda6398f472897f2d57", func := "halfplane/halfplanelaw09.MatrixKernels", spec := "matrixKernels", named := ["math/bits.overflowError"], apart := false }
def MatrixKernelsSaid : Prop := matrixKernelsRow.holds Tryz.pinned (OpenSpec.ofChange matrixKernelsSpec)

/-- ITS FALSE NEIGHBOUR: 'it returns false'. Refute it at one input. -/
def matrixKernelsWrong : ChangeSpec := { name := "matrixKernels", fn := fun _ => fun
  | [d] => { results := [.lit (.bool false)], args := [d] }
  | _ => none }
def MatrixKernelsWrongFalsely : Prop := matrixKernelsRow.holds Tryz.pinned (OpenSpec.ofChange matrixKernelsWrong)

/-- 'halfplanelaw09.MatrixInertia': WHATEVER THE INPUT: true; the input reads as it did. -/
def matrixInertiaSpec : ChangeSpec := { name := "matrixInertia", fn := fun _ => fun
  | [d1, d2] => { results := [.lit (.bool true)], args := [d1, d2] }
  | _ => none }
def matrixInertiaRow : OpenClaim := { program := "ytcfgogamamdipaagreat", sum := "f88c03408ecdb96c44e23823a876afa75f6f95403f266bda6398f472897f2d57", func := "halfplane/halfplanelaw09.MatrixInertia", spec := "matrixInertia", named := ["math/bits.overflowError"], apart := false }
def MatrixInertiaSaid : Prop := matrixInertiaRow.holds Tryz.pinned (OpenSpec.ofChange matrixInertiaSpec)

/-- ITS FALSE NEIGHBOUR: 'it returns false'. Refute it at one input. -/
def matrixInertiaWrong : ChangeSpec := { name := "matrixInertia", fn := fun _ => fun
  | [d1, d2] => { results := [.lit (.bool false)], args := [d1, d2] }
  | _ => none }
def MatrixInertiaWrongFalsely : Prop := matrixInertiaRow.holds Tryz.pinned (OpenSpec.ofChange matrixInertiaWrong)

/-- 'halfplanelaw09.MatrixOperations': WHATEVER THE INPUT: true; the input reads as it did. -/
def matrixOperationsSpec : ChangeSpec := { name := "matrixOperations", fn := fun _ => fun
  | [d1, d2, d3] => { results := [.lit (.bool true)], args := [d1, d2, d3] }
  | _ => none }
def matrixOperationsRow : OpenClaim := { program := "ytcfgogamamdipaagreat", sum := "f88c03408ecdb96c44e23823a876afa75f6f95403f266bda6398f472897f2d57", func := "halfplane/halfplanelaw09.MatrixOperations", spec := "matrixOperations", unfollowed := true, recurses := true, named := ["math/bits.overflowError"], apart := false }
def MatrixOperationsSaid : Prop := matrixOperationsRow.holds Tryz.pinned (OpenSpec.ofChange matrixOperationsSpec)

/-- ITS FALSE NEIGHBOUR: 'it returns false'. Refute it at one input. -/
def matrixOperationsWrong : ChangeSpec := { name := "matrixOperations", fn := fun _ => fun
  | [d1, d2, d3] => { results := [.lit (.bool false)], args := [d1, d2, d3] }
  | _ => none }
def MatrixOperationsWrongFalsely : Prop := matrixOperationsRow.holds Tryz.pinned (OpenSpec.ofChange matrixOperationsWrong)

/- THE SECOND FORM. 'bulk': how many values and letters a reading holds, each counted each time it is reached (what is shared counts as often as it is met; a slice's spare places count too). A statement '..UptoSaid' is the law's where the arguments, and the package variables that the reading takes, are together of bulk at most 1048576: NARROWER than '..Said'. Prove '..Said' where nothing that the law and all that it calls make is longer than what came in: it says more and counts as full. Else prove '..UptoSaid'. A law counts once. -/
mutual
def uptoBulk {H : Type} : DataW H → Nat
  | .lit (.string bytes) => bytes.length + 1
  | .lit _ => 1
  | .nil => 1
  | .ptr d => uptoBulk d + 1
  | .slice elems spare => uptoBulkAll elems + uptoBulkAll spare + 1
  | .agg parts => uptoBulkAll parts + 1
  | .iface _ d => uptoBulk d + 1
  | .map entries => uptoBulkEntries entries + 1
  | .held _ => 1
def uptoBulkAll {H : Type} : List (DataW H) → Nat
  | [] => 0
  | d :: r => uptoBulk d + uptoBulkAll r
def uptoBulkEntries {H : Type} : List (Lit × DataW H) → Nat
  | [] => 0
  | x :: r => uptoBulkEntry x + uptoBulkEntries r
def uptoBulkEntry {H : Type} : Lit × DataW H → Nat
  | (.string bytes, d) => bytes.length + uptoBulk d + 1
  | (_, d) => uptoBulk d + 1
 end
def uptoSmall : (H : Type) → List (DataW H) → Bool := fun _ ds => decide (uptoBulkAll ds ≤ 1048576)
def OpenSpec.upto (s : _root_.Go.ChangeSpec) : _root_.Go.OpenSpec := { _root_.Go.OpenSpec.ofChange s with cond := some uptoSmall }

/-- 'halfplanelaw09.MatrixDets', WHERE WHAT IT READS IS OF BULK AT MOST 1048576: true; the input reads as it did. -/
def matrixDetsUptoRow : OpenClaim := { program := "ytcfgogamamdipaagreat", sum := "f88c03408ecdb96c44e23823a876afa75f6f95403f266bda6398f472897f2d57", func := "halfplane/halfplanelaw09.MatrixDets", spec := "matrixDets", recurses := true, named := ["math/bits.overflowError"], apart := false, narrowed := true }
def MatrixDetsUptoSaid : Prop := matrixDetsUptoRow.holds Tryz.pinned (OpenSpec.upto matrixDetsSpec)

/-- 'halfplanelaw09.MatrixEchelons', WHERE WHAT IT READS IS OF BULK AT MOST 1048576: true; the input reads as it did. -/
def matrixEchelonsUptoRow : OpenClaim := { program := "ytcfgogamamdipaagreat", sum := "f88c03408ecdb96c44e23823a876afa75f6f95403f266bda6398f472897f2d57", func := "halfplane/halfplanelaw09.MatrixEchelons", spec := "matrixEchelons", named := ["math/bits.overflowError"], apart := false, narrowed := true }
def MatrixEchelonsUptoSaid : Prop := matrixEchelonsUptoRow.holds Tryz.pinned (OpenSpec.upto matrixEchelonsSpec)

/-- 'halfplanelaw09.MatrixInverses', WHERE WHAT IT READS IS OF BULK AT MOST 1048576: true; the input reads as it did. -/
def matrixInversesUptoRow : OpenClaim := { program := "ytcfgogamamdipaagreat", sum := "f88c03408ecdb96c44e23823a876afa75f6f95403f266bda6398f472897f2d57", func := "halfplane/halfplanelaw09.MatrixInverses", spec := "matrixInverses", named := ["math/bits.overflowError"], apart := false, narrowed := true }
def MatrixInversesUptoSaid : Prop := matrixInversesUptoRow.holds Tryz.pinned (OpenSpec.upto matrixInversesSpec)

/-- 'halfplanelaw09.MatrixBuilds', WHERE WHAT IT READS IS OF BULK AT MOST 1048576: true; the input reads as it did. -/
def matrixBuildsUptoRow : OpenClaim := { program := "ytcfgogamamdipaagreat", sum := "f88c03408ecdb96c44e23823a876afa75f6f95403f266bda6398f472897f2d57", func := "halfplane/halfplanelaw09.MatrixBuilds", spec := "matrixBuilds", named := ["math/bits.overflowError"], apart := false, narrowed := true }
def MatrixBuildsUptoSaid : Prop := matrixBuildsUptoRow.holds Tryz.pinned (OpenSpec.upto matrixBuildsSpec)

/-- 'halfplanelaw09.MatrixPowers', WHERE WHAT IT READS IS OF BULK AT MOST 1048576: true; the input reads as it did. -/
def matrixPowersUptoRow : OpenClaim := { program := "ytcfgogamamdipaagreat", sum := "f88c03408ecdb96c44e23823a876afa75f6f95403f266bda6398f472897f2d57", func := "halfplane/halfplanelaw09.MatrixPowers", spec := "matrixPowers", named := ["math/bits.overflowError"], apart := false, narrowed := true }
def MatrixPowersUptoSaid : Prop := matrixPowersUptoRow.holds Tryz.pinned (OpenSpec.upto matrixPowersSpec)

/-- 'halfplanelaw09.MatrixSolves', WHERE WHAT IT READS IS OF BULK AT MOST 1048576: true; the input reads as it did. -/
def matrixSolvesUptoRow : OpenClaim := { program := "ytcfgogamamdipaagreat", sum := "f88c03408ecdb96c44e23823a876afa75f6f95403f266bda6398f472897f2d57", func := "halfplane/halfplanelaw09.MatrixSolves", spec := "matrixSolves", named := ["math/bits.overflowError"], apart := false, narrowed := true }
def MatrixSolvesUptoSaid : Prop := matrixSolvesUptoRow.holds Tryz.pinned (OpenSpec.upto matrixSolvesSpec)

/-- 'halfplanelaw09.MatrixKernels', WHERE WHAT IT READS IS OF BULK AT MOST 1048576: true; the input reads as it did. -/
def matrixKernelsUptoRow : OpenClaim := { program := "ytcfgogamamdipaagreat", sum := "f88c03408ecdb96c44e23823a876afa75f6f95403f266bda6398f472897f2d57", func := "halfplane/halfplanelaw09.MatrixKernels", spec := "matrixKernels", named := ["math/bits.overflowError"], apart := false, narrowed := true }
def MatrixKernelsUptoSaid : Prop := matrixKernelsUptoRow.holds Tryz.pinned (OpenSpec.upto matrixKernelsSpec)

/-- 'halfplanelaw09.MatrixInertia', WHERE WHAT IT READS IS OF BULK AT MOST 1048576: true; the input reads as it did. -/
def matrixInertiaUptoRow : OpenClaim := { program := "ytcfgogamamdipaagreat", sum := "f88c03408ecdb96c44e23823a876afa75f6f95403f266bda6398f472897f2d57", func := "halfplane/halfplanelaw09.MatrixInertia", spec := "matrixInertia", named := ["math/bits.overflowError"], apart := false, narrowed := true }
def MatrixInertiaUptoSaid : Prop := matrixInertiaUptoRow.holds Tryz.pinned (OpenSpec.upto matrixInertiaSpec)

/-- 'halfplanelaw09.MatrixOperations', WHERE WHAT IT READS IS OF BULK AT MOST 1048576: true; the input reads as it did. -/
def matrixOperationsUptoRow : OpenClaim := { program := "ytcfgogamamdipaagreat", sum := "f88c03408ecdb96c44e23823a876afa75f6f95403f266bda6398f472897f2d57", func := "halfplane/halfplanelaw09.MatrixOperations", spec := "matrixOperations", unfollowed := true, recurses := true, named := ["math/bits.overflowError"], apart := false, narrowed := true }
def MatrixOperationsUptoSaid : Prop := matrixOperationsUptoRow.holds Tryz.pinned (OpenSpec.upto matrixOperationsSpec)

end Rows
end Go.Proofs.YtcfgogamamdipaaGreat
