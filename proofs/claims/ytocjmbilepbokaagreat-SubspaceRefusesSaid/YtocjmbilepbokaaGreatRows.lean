/-
  No cell of these rows narrows 'for every input' (looked for: loops, veiled, ifaces, maps, wideKeys, modest, calm, conditions, laid).
  DERIVED. THE GIVEN ROWS OF THIS SEAT. 9 by the template 'for every input the law returns true; each argument reads behind the call as it read before'; 0 by the template 'total and deterministic' (their statements: YtocjmbilepbokaaGreatTotals.lean).
  GIVEN WITH THE SEED: the statements are not yours to turn. If you find one false, say at which input.
  Laid BY PROGRAM, IN A SANDBOX (cutbox-rows.mjs): the forced cells as the released guide's own fill.sh prints them over the translation 4f8b28594bacf212… (all of the seat's roots in one cut). By AI agents, Wed Nov 11 2026. No macro, syntax, notation, axiom, sorry.
-/
import Derived.Test.YtocjmbilepbokaaGreatChecked
import GoSem.Claim
import GoSem.ClaimJoined
import GoSem.ClaimMapViews
import Derived.JoinedTies
import Derived.KernelRfl
namespace Go.Proofs.YtocjmbilepbokaaGreat
/- THE CELL 'sum', in the pinned program and in every row, IS THE sha256 OF THE DUMP (.gsa) THAT YtocjmbilepbokaaGreatProg.lean LOADS. Nothing in Lean hashes anything: it is a label: what it is worth is what the hold of that sum in a sandbox is worth. -/
noncomputable def Tryz.pinned : Pinned := { name := "ytocjmbilepbokaagreat", sum := "4f8b28594bacf21253717985ed8fa178aa3c14ff7cc8237911635d4146d2acfe", checked := Tryz.checked }
namespace Rows
def none {H : Type} : Left H := { results := [], args := [] }

/-- 'halfplanelaw10.SubspaceModular': WHATEVER THE INPUT: true; the input reads as it did. -/
def subspaceModularSpec : ChangeSpec := { name := "subspaceModular", fn := fun _ => fun
  | [d1, d2, d3] => { results := [.lit (.bool true)], args := [d1, d2, d3] }
  | _ => none }
def subspaceModularRow : OpenClaim := { program := "ytocjmbilepbokaagreat", sum := "4f8b28594bacf21253717985ed8fa178aa3c14ff7cc8237911635d4146d2acfe", func := "halfplane/halfplanelaw10.SubspaceModular", spec := "subspaceModular", unfollowed := true, recurses := true, named := ["math/bits.overflowError"], apart := false }
def SubspaceModularSaid : Prop := subspaceModularRow.holds Tryz.pinned (OpenSpec.ofChange subspaceModularSpec)

/-- ITS FALSE NEIGHBOUR: 'it returns false'. Refute it at one input. -/
def subspaceModularWrong : ChangeSpec := { name := "subspaceModular", fn := fun _ => fun
  | [d1, d2, d3] => { results := [.lit (.bool false)], args := [d1, d2, d3] }
  | _ => none }
def SubspaceModularWrongFalsely : Prop := subspaceModularRow.holds Tryz.pinned (OpenSpec.ofChange subspaceModularWrong)

/-- 'halfplanelaw10.SubspaceElements': WHATEVER THE INPUT: true; the input reads as it did. -/
def subspaceElementsSpec : ChangeSpec := { name := "subspaceElements", fn := fun _ => fun
  | [d1, d2] => { results := [.lit (.bool true)], args := [d1, d2] }
  | _ => none }
def subspaceElementsRow : OpenClaim := { program := "ytocjmbilepbokaagreat", sum := "4f8b28594bacf21253717985ed8fa178aa3c14ff7cc8237911635d4146d2acfe", func := "halfplane/halfplanelaw10.SubspaceElements", spec := "subspaceElements", unfollowed := true, recurses := true, named := ["math/bits.overflowError"], apart := false }
def SubspaceElementsSaid : Prop := subspaceElementsRow.holds Tryz.pinned (OpenSpec.ofChange subspaceElementsSpec)

/-- ITS FALSE NEIGHBOUR: 'it returns false'. Refute it at one input. -/
def subspaceElementsWrong : ChangeSpec := { name := "subspaceElements", fn := fun _ => fun
  | [d1, d2] => { results := [.lit (.bool false)], args := [d1, d2] }
  | _ => none }
def SubspaceElementsWrongFalsely : Prop := subspaceElementsRow.holds Tryz.pinned (OpenSpec.ofChange subspaceElementsWrong)

/-- 'halfplanelaw10.SubspaceBuilds': WHATEVER THE INPUT: true; the input reads as it did. -/
def subspaceBuildsSpec : ChangeSpec := { name := "subspaceBuilds", fn := fun _ => fun
  | [d1, d2, d3] => { results := [.lit (.bool true)], args := [d1, d2, d3] }
  | _ => none }
def subspaceBuildsRow : OpenClaim := { program := "ytocjmbilepbokaagreat", sum := "4f8b28594bacf21253717985ed8fa178aa3c14ff7cc8237911635d4146d2acfe", func := "halfplane/halfplanelaw10.SubspaceBuilds", spec := "subspaceBuilds", unfollowed := true, recurses := true, named := ["math/bits.overflowError"], apart := false }
def SubspaceBuildsSaid : Prop := subspaceBuildsRow.holds Tryz.pinned (OpenSpec.ofChange subspaceBuildsSpec)

/-- ITS FALSE NEIGHBOUR: 'it returns false'. Refute it at one input. -/
def subspaceBuildsWrong : ChangeSpec := { name := "subspaceBuilds", fn := fun _ => fun
  | [d1, d2, d3] => { results := [.lit (.bool false)], args := [d1, d2, d3] }
  | _ => none }
def SubspaceBuildsWrongFalsely : Prop := subspaceBuildsRow.holds Tryz.pinned (OpenSpec.ofChange subspaceBuildsWrong)

/-- 'halfplanelaw10.SubspaceLattice': WHATEVER THE INPUT: true; the input reads as it did. -/
def subspaceLatticeSpec : ChangeSpec := { name := "subspaceLattice", fn := fun _ => fun
  | [d1, d2] => { results := [.lit (.bool true)], args := [d1, d2] }
  | _ => none }
def subspaceLatticeRow : OpenClaim := { program := "ytocjmbilepbokaagreat", sum := "4f8b28594bacf21253717985ed8fa178aa3c14ff7cc8237911635d4146d2acfe", func := "halfplane/halfplanelaw10.SubspaceLattice", spec := "subspaceLattice", unfollowed := true, recurses := true, named := ["math/bits.overflowError"], apart := false }
def SubspaceLatticeSaid : Prop := subspaceLatticeRow.holds Tryz.pinned (OpenSpec.ofChange subspaceLatticeSpec)

/-- ITS FALSE NEIGHBOUR: 'it returns false'. Refute it at one input. -/
def subspaceLatticeWrong : ChangeSpec := { name := "subspaceLattice", fn := fun _ => fun
  | [d1, d2] => { results := [.lit (.bool false)], args := [d1, d2] }
  | _ => none }
def SubspaceLatticeWrongFalsely : Prop := subspaceLatticeRow.holds Tryz.pinned (OpenSpec.ofChange subspaceLatticeWrong)

/-- 'halfplanelaw10.SubspaceDuals': WHATEVER THE INPUT: true; the input reads as it did. -/
def subspaceDualsSpec : ChangeSpec := { name := "subspaceDuals", fn := fun _ => fun
  | [d1, d2] => { results := [.lit (.bool true)], args := [d1, d2] }
  | _ => none }
def subspaceDualsRow : OpenClaim := { program := "ytocjmbilepbokaagreat", sum := "4f8b28594bacf21253717985ed8fa178aa3c14ff7cc8237911635d4146d2acfe", func := "halfplane/halfplanelaw10.SubspaceDuals", spec := "subspaceDuals", unfollowed := true, recurses := true, named := ["math/bits.overflowError"], apart := false }
def SubspaceDualsSaid : Prop := subspaceDualsRow.holds Tryz.pinned (OpenSpec.ofChange subspaceDualsSpec)

/-- ITS FALSE NEIGHBOUR: 'it returns false'. Refute it at one input. -/
def subspaceDualsWrong : ChangeSpec := { name := "subspaceDuals", fn := fun _ => fun
  | [d1, d2] => { results := [.lit (.bool false)], args := [d1, d2] }
  | _ => none }
def SubspaceDualsWrongFalsely : Prop := subspaceDualsRow.holds Tryz.pinned (OpenSpec.ofChange subspaceDualsWrong)

/-- 'halfplanelaw10.SubspaceMaps': WHATEVER THE INPUT: true; the input reads as it did. -/
def subspaceMapsSpec : ChangeSpec := { name := "subspaceMaps", fn := fun _ => fun
  | [d1, d2, d3] => { results := [.lit (.bool true)], args := [d1, d2, d3] }
  | _ => none }
def subspaceMapsRow : OpenClaim := { program := "ytocjmbilepbokaagreat", sum := "4f8b28594bacf21253717985ed8fa178aa3c14ff7cc8237911635d4146d2acfe", func := "halfplane/halfplanelaw10.SubspaceMaps", spec := "subspaceMaps", unfollowed := true, recurses := true, named := ["math/bits.overflowError"], apart := false }
def SubspaceMapsSaid : Prop := subspaceMapsRow.holds Tryz.pinned (OpenSpec.ofChange subspaceMapsSpec)

/-- ITS FALSE NEIGHBOUR: 'it returns false'. Refute it at one input. -/
def subspaceMapsWrong : ChangeSpec := { name := "subspaceMaps", fn := fun _ => fun
  | [d1, d2, d3] => { results := [.lit (.bool false)], args := [d1, d2, d3] }
  | _ => none }
def SubspaceMapsWrongFalsely : Prop := subspaceMapsRow.holds Tryz.pinned (OpenSpec.ofChange subspaceMapsWrong)

/-- 'halfplanelaw10.SubspaceRestricts': WHATEVER THE INPUT: true; the input reads as it did. -/
def subspaceRestrictsSpec : ChangeSpec := { name := "subspaceRestricts", fn := fun _ => fun
  | [d1, d2] => { results := [.lit (.bool true)], args := [d1, d2] }
  | _ => none }
def subspaceRestrictsRow : OpenClaim := { program := "ytocjmbilepbokaagreat", sum := "4f8b28594bacf21253717985ed8fa178aa3c14ff7cc8237911635d4146d2acfe", func := "halfplane/halfplanelaw10.SubspaceRestricts", spec := "subspaceRestricts", unfollowed := true, recurses := true, named := ["math/bits.overflowError"], apart := false }
def SubspaceRestrictsSaid : Prop := subspaceRestrictsRow.holds Tryz.pinned (OpenSpec.ofChange subspaceRestrictsSpec)

/-- ITS FALSE NEIGHBOUR: 'it returns false'. Refute it at one input. -/
def subspaceRestrictsWrong : ChangeSpec := { name := "subspaceRestricts", fn := fun _ => fun
  | [d1, d2] => { results := [.lit (.bool false)], args := [d1, d2] }
  | _ => none }
def SubspaceRestrictsWrongFalsely : Prop := subspaceRestrictsRow.holds Tryz.pinned (OpenSpec.ofChange subspaceRestrictsWrong)

/-- 'halfplanelaw10.SubspaceComposes': WHATEVER THE INPUT: true; the input reads as it did. -/
def subspaceComposesSpec : ChangeSpec := { name := "subspaceComposes", fn := fun _ => fun
  | [d1, d2, d3] => { results := [.lit (.bool true)], args := [d1, d2, d3] }
  | _ => none }
def subspaceComposesRow : OpenClaim := { program := "ytocjmbilepbokaagreat", sum := "4f8b28594bacf21253717985ed8fa178aa3c14ff7cc8237911635d4146d2acfe", func := "halfplane/halfplanelaw10.SubspaceComposes", spec := "subspaceComposes", unfollowed := true, recurses := true, named := ["math/bits.overflowError"], apart := false }
def SubspaceComposesSaid : Prop := subspaceComposesRow.holds Tryz.pinned (OpenSpec.ofChange subspaceComposesSpec)

/-- ITS FALSE NEIGHBOUR: 'it returns false'. Refute it at one input. -/
def subspaceComposesWrong : ChangeSpec := { name := "subspaceComposes", fn := fun _ => fun
  | [d1, d2, d3] => { results := [.lit (.bool false)], args := [d1, d2, d3] }
  | _ => none }
def SubspaceComposesWrongFalsely : Prop := subspaceComposesRow.holds Tryz.pinned (OpenSpec.ofChange subspaceComposesWrong)

/-- 'halfplanelaw10.SubspaceRefuses': WHATEVER THE INPUT: true; the input reads as it did. -/
def subspaceRefusesSpec : ChangeSpec := { name := "subspaceRefuses", fn := fun _ => fun
  | [d1, d2, d3] => { results := [.lit (.bool true)], args := [d1, d2, d3] }
  | _ => none }
def subspaceRefusesRow : OpenClaim := { program := "ytocjmbilepbokaagreat", sum := "4f8b28594bacf21253717985ed8fa178aa3c14ff7cc8237911635d4146d2acfe", func := "halfplane/halfplanelaw10.SubspaceRefuses", spec := "subspaceRefuses", unfollowed := true, recurses := true, named := ["math/bits.overflowError"], apart := false }
def SubspaceRefusesSaid : Prop := subspaceRefusesRow.holds Tryz.pinned (OpenSpec.ofChange subspaceRefusesSpec)

/-- ITS FALSE NEIGHBOUR: 'it returns false'. Refute it at one input. -/
def subspaceRefusesWrong : ChangeSpec := { name := "subspaceRefuses", fn := fun _ => fun
  | [d1, d2, d3] => { results := [.lit (.bool false)], args := [d1, d2, d3] }
  | _ => none }
def SubspaceRefusesWrongFalsely : Prop := subspaceRefusesRow.holds Tryz.pinned (OpenSpec.ofChange subspaceRefusesWrong)

/- THE SECOND FORM. 'bulk': how many values and letters a reading holds, each counted each time it is reached (what is shared counts as often as it is met; a slice's spare places count too). A statement '..UptoSaid' is the law's where the arguments, and the package variables that the reading takes, are together of bulk at most 1048576: NARROWER than '..Said'. Prove '..Said' where nothing that the law and all that it calls make is longer than what came in: it says more and counts as full. Else prove '..UptoSaid'. A law counts once. -/
mutual
def uptoBulk {H : Type} : DataW H → Nat
  | .lit (.string bytes) => bytes.length + 1
  | .lit _ => 1
  | .nil => 1
  | .ptr d => uptoBulk d + 1
  | .slice elems spare => uptoBulkAll elems + uptoBulkAll spare + 1
  | .agg parts => uptoBulkAll parts + 1
  | .iface _ d => uptoBulk d + 1
  | .map entries => uptoBulkEntries entries + 1
  | .held _ => 1
def uptoBulkAll {H : Type} : List (DataW H) → Nat
  | [] => 0
  | d :: r => uptoBulk d + uptoBulkAll r
def uptoBulkEntries {H : Type} : List (Lit × DataW H) → Nat
  | [] => 0
  | x :: r => uptoBulkEntry x + uptoBulkEntries r
def uptoBulkEntry {H : Type} : Lit × DataW H → Nat
  | (.string bytes, d) => bytes.length + uptoBulk d + 1
  | (_, d) => uptoBulk d + 1
 end
def uptoSmall : (H : Type) → List (DataW H) → Bool := fun _ ds => decide (uptoBulkAll ds ≤ 1048576)
def OpenSpec.upto (s : _root_.Go.ChangeSpec) : _root_.Go.OpenSpec := { _root_.Go.OpenSpec.ofChange s with cond := some uptoSmall }

/-- 'halfplanelaw10.SubspaceModular', WHERE WHAT IT READS IS OF BULK AT MOST 1048576: true; the input reads as it did. -/
def subspaceModularUptoRow : OpenClaim := { program := "ytocjmbilepbokaagreat", sum := "4f8b28594bacf21253717985ed8fa178aa3c14ff7cc8237911635d4146d2acfe", func := "halfplane/halfplanelaw10.SubspaceModular", spec := "subspaceModular", unfollowed := true, recurses := true, named := ["math/bits.overflowError"], apart := false, narrowed := true }
def SubspaceModularUptoSaid : Prop := subspaceModularUptoRow.holds Tryz.pinned (OpenSpec.upto subspaceModularSpec)

/-- 'halfplanelaw10.SubspaceElements', WHERE WHAT IT READS IS OF BULK AT MOST 1048576: true; the input reads as it did. -/
def subspaceElementsUptoRow : OpenClaim := { program := "ytocjmbilepbokaagreat", sum := "4f8b28594bacf21253717985ed8fa178aa3c14ff7cc8237911635d4146d2acfe", func := "halfplane/halfplanelaw10.SubspaceElements", spec := "subspaceElements", unfollowed := true, recurses := true, named := ["math/bits.overflowError"], apart := false, narrowed := true }
def SubspaceElementsUptoSaid : Prop := subspaceElementsUptoRow.holds Tryz.pinned (OpenSpec.upto subspaceElementsSpec)

/-- 'halfplanelaw10.SubspaceBuilds', WHERE WHAT IT READS IS OF BULK AT MOST 1048576: true; the input reads as it did. -/
def subspaceBuildsUptoRow : OpenClaim := { program := "ytocjmbilepbokaagreat", sum := "4f8b28594bacf21253717985ed8fa178aa3c14ff7cc8237911635d4146d2acfe", func := "halfplane/halfplanelaw10.SubspaceBuilds", spec := "subspaceBuilds", unfollowed := true, recurses := true, named := ["math/bits.overflowError"], apart := false, narrowed := true }
def SubspaceBuildsUptoSaid : Prop := subspaceBuildsUptoRow.holds Tryz.pinned (OpenSpec.upto subspaceBuildsSpec)

/-- 'halfplanelaw10.SubspaceLattice', WHERE WHAT IT READS IS OF BULK AT MOST 1048576: true; the input reads as it did. -/
def subspaceLatticeUptoRow : OpenClaim := { program := "ytocjmbilepbokaagreat", sum := "4f8b28594bacf21253717985ed8fa178aa3c14ff7cc8237911635d4146d2acfe", func := "halfplane/halfplanelaw10.SubspaceLattice", spec := "subspaceLattice", unfollowed := true, recurses := true, named := ["math/bits.overflowError"], apart := false, narrowed := true }
def SubspaceLatticeUptoSaid : Prop := subspaceLatticeUptoRow.holds Tryz.pinned (OpenSpec.upto subspaceLatticeSpec)

/-- 'halfplanelaw10.SubspaceDuals', WHERE WHAT IT READS IS OF BULK AT MOST 1048576: true; the input reads as it did. -/
def subspaceDualsUptoRow : OpenClaim := { program := "ytocjmbilepbokaagreat", sum := "4f8b28594bacf21253717985ed8fa178aa3c14ff7cc8237911635d4146d2acfe", func := "halfplane/halfplanelaw10.SubspaceDuals", spec := "subspaceDuals", unfollowed := true, recurses := true, named := ["math/bits.overflowError"], apart := false, narrowed := true }
def SubspaceDualsUptoSaid : Prop := subspaceDualsUptoRow.holds Tryz.pinned (OpenSpec.upto subspaceDualsSpec)

/-- 'halfplanelaw10.SubspaceMaps', WHERE WHAT IT READS IS OF BULK AT MOST 1048576: true; the input reads as it did. -/
def subspaceMapsUptoRow : OpenClaim := { program := "ytocjmbilepbokaagreat", sum := "4f8b28594bacf21253717985ed8fa178aa3c14ff7cc8237911635d4146d2acfe", func := "halfplane/halfplanelaw10.SubspaceMaps", spec := "subspaceMaps", unfollowed := true, recurses := true, named := ["math/bits.overflowError"], apart := false, narrowed := true }
def SubspaceMapsUptoSaid : Prop := subspaceMapsUptoRow.holds Tryz.pinned (OpenSpec.upto subspaceMapsSpec)

/-- 'halfplanelaw10.SubspaceRestricts', WHERE WHAT IT READS IS OF BULK AT MOST 1048576: true; the input reads as it did. -/
def subspaceRestrictsUptoRow : OpenClaim := { program := "ytocjmbilepbokaagreat", sum := "4f8b28594bacf21253717985ed8fa178aa3c14ff7cc8237911635d4146d2acfe", func := "halfplane/halfplanelaw10.SubspaceRestricts", spec := "subspaceRestricts", unfollowed := true, recurses := true, named := ["math/bits.overflowError"], apart := false, narrowed := true }
def SubspaceRestrictsUptoSaid : Prop := subspaceRestrictsUptoRow.holds Tryz.pinned (OpenSpec.upto subspaceRestrictsSpec)

/-- 'halfplanelaw10.SubspaceComposes', WHERE WHAT IT READS IS OF BULK AT MOST 1048576: true; the input reads as it did. -/
def subspaceComposesUptoRow : OpenClaim := { program := "ytocjmbilepbokaagreat", sum := "4f8b28594bacf21253717985ed8fa178aa3c14ff7cc8237911635d4146d2acfe", func := "halfplane/halfplanelaw10.SubspaceComposes", spec := "subspaceComposes", unfollowed := true, recurses := true, named := ["math/bits.overflowError"], apart := false, narrowed := true }
def SubspaceComposesUptoSaid : Prop := subspaceComposesUptoRow.holds Tryz.pinned (OpenSpec.upto subspaceComposesSpec)

/-- 'halfplanelaw10.SubspaceRefuses', WHERE WHAT IT READS IS OF BULK AT MOST 1048576: true; the input reads as it did. -/
def subspaceRefusesUptoRow : OpenClaim := { program := "ytocjmbilepbokaagreat", sum := "4f8b28594bacf21253717985ed8fa178aa3c14ff7cc8237911635d4146d2acfe", func := "halfplane/halfplanelaw10.SubspaceRefuses", spec := "subspaceRefuses", unfollowed := true, recurses := true, named := ["math/bits.overflowError"], apart := false, narrowed := true }
def SubspaceRefusesUptoSaid : Prop := subspaceRefusesUptoRow.holds Tryz.pinned (OpenSpec.upto subspaceRefusesSpec)

end Rows
end Go.Proofs.YtocjmbilepbokaaGreat
