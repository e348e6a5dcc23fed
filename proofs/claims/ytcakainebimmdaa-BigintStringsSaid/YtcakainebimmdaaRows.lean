/-
  No cell of these rows narrows 'for every input' (looked for: loops, veiled, ifaces, maps, wideKeys, modest, calm, conditions, laid).
  DERIVED. THE GIVEN ROWS OF THIS SEAT. 11 by the template 'for every input the law returns true; each argument reads behind the call as it read before'; 0 by the template 'total and deterministic' (their statements: YtcakainebimmdaaTotals.lean).
  GIVEN WITH THE SEED: the statements are not yours to turn. If you find one false, say at which input.
  Laid BY PROGRAM, IN A SANDBOX (cutbox-rows.mjs): the forced cells as the released guide's own fill.sh prints them over the translation 4489cb360382beea… (all of the seat's roots in one cut). By AI agents, Wed Nov 11 2026. No macro, syntax, notation, axiom, sorry.
-/
import Derived.Test.YtcakainebimmdaaChecked
import GoSem.Claim
import GoSem.ClaimJoined
import GoSem.ClaimMapViews
import Derived.JoinedTies
import Derived.KernelRfl
namespace Go.Proofs.Ytcakainebimmdaa
/- THE CELL 'sum', in the pinned program and in every row, IS THE sha256 OF THE DUMP (.gsa) THAT YtcakainebimmdaaProg.lean LOADS. Nothing in Lean hashes anything: it is a label: what it is worth is what the hold of that sum in a sandbox is worth. -/
noncomputable def Try.pinned : Pinned := { name := "ytcakainebimmdaa", sum := "4489cb360382beeac8acd061d5fbc3645aee3f0ee02df9e8c426ba3feb9f1832", checked := Try.checked }
namespace Rows
def none {H : Type} : Left H := { results := [], args := [] }

/-- 'halfplanelaw01.BigintConverts': WHATEVER THE INPUT: true; the input reads as it did. -/
def bigintConvertsSpec : ChangeSpec := { name := "bigintConverts", fn := fun _ => fun
  | [d1, d2] => { results := [.lit (.bool true)], args := [d1, d2] }
  | _ => none }
def bigintConvertsRow : OpenClaim := { program := "ytcakainebimmdaa", sum := "4489cb360382beeac8acd061d5fbc3645aee3f0ee02df9e8c426ba3feb9f1832", func := "halfplane/halfplanelaw01.BigintConverts", spec := "bigintConverts", named := ["math/bits.overflowError"], apart := false }
def BigintConvertsSaid : Prop := bigintConvertsRow.holds Try.pinned (OpenSpec.ofChange bigintConvertsSpec)

/-- ITS FALSE NEIGHBOUR: 'it returns false'. Refute it at one input. -/
def bigintConvertsWrong : ChangeSpec := { name := "bigintConverts", fn := fun _ => fun
  | [d1, d2] => { results := [.lit (.bool false)], args := [d1, d2] }
  | _ => none }
def BigintConvertsWrongFalsely : Prop := bigintConvertsRow.holds Try.pinned (OpenSpec.ofChange bigintConvertsWrong)

/-- 'halfplanelaw01.BigintStrings': WHATEVER THE INPUT: true; the input reads as it did. -/
def bigintStringsSpec : ChangeSpec := { name := "bigintStrings", fn := fun _ => fun
  | [d1, d2] => { results := [.lit (.bool true)], args := [d1, d2] }
  | _ => none }
def bigintStringsRow : OpenClaim := { program := "ytcakainebimmdaa", sum := "4489cb360382beeac8acd061d5fbc3645aee3f0ee02df9e8c426ba3feb9f1832", func := "halfplane/halfplanelaw01.BigintStrings", spec := "bigintStrings", named := ["math/bits.overflowError"], apart := false }
def BigintStringsSaid : Prop := bigintStringsRow.holds Try.pinned (OpenSpec.ofChange bigintStringsSpec)

/-- ITS FALSE NEIGHBOUR: 'it returns false'. Refute it at one input. -/
def bigintStringsWrong : ChangeSpec := { name := "bigintStrings", fn := fun _ => fun
  | [d1, d2] => { results := [.lit (.bool false)], args := [d1, d2] }
  | _ => none }
def BigintStringsWrongFalsely : Prop := bigintStringsRow.holds Try.pinned (OpenSpec.ofChange bigintStringsWrong)

/-- 'halfplanelaw01.BigintDivides': WHATEVER THE INPUT: true; the input reads as it did. -/
def bigintDividesSpec : ChangeSpec := { name := "bigintDivides", fn := fun _ => fun
  | [d1, d2] => { results := [.lit (.bool true)], args := [d1, d2] }
  | _ => none }
def bigintDividesRow : OpenClaim := { program := "ytcakainebimmdaa", sum := "4489cb360382beeac8acd061d5fbc3645aee3f0ee02df9e8c426ba3feb9f1832", func := "halfplane/halfplanelaw01.BigintDivides", spec := "bigintDivides", named := ["math/bits.overflowError"], apart := false }
def BigintDividesSaid : Prop := bigintDividesRow.holds Try.pinned (OpenSpec.ofChange bigintDividesSpec)

/-- ITS FALSE NEIGHBOUR: 'it returns false'. Refute it at one input. -/
def bigintDividesWrong : ChangeSpec := { name := "bigintDivides", fn := fun _ => fun
  | [d1, d2] => { results := [.lit (.bool false)], args := [d1, d2] }
  | _ => none }
def BigintDividesWrongFalsely : Prop := bigintDividesRow.holds Try.pinned (OpenSpec.ofChange bigintDividesWrong)

/-- 'halfplanelaw01.BigintDivisors': WHATEVER THE INPUT: true; the input reads as it did. -/
def bigintDivisorsSpec : ChangeSpec := { name := "bigintDivisors", fn := fun _ => fun
  | [d1, d2, d3] => { results := [.lit (.bool true)], args := [d1, d2, d3] }
  | _ => none }
def bigintDivisorsRow : OpenClaim := { program := "ytcakainebimmdaa", sum := "4489cb360382beeac8acd061d5fbc3645aee3f0ee02df9e8c426ba3feb9f1832", func := "halfplane/halfplanelaw01.BigintDivisors", spec := "bigintDivisors", named := ["math/bits.overflowError"], apart := false }
def BigintDivisorsSaid : Prop := bigintDivisorsRow.holds Try.pinned (OpenSpec.ofChange bigintDivisorsSpec)

/-- ITS FALSE NEIGHBOUR: 'it returns false'. Refute it at one input. -/
def bigintDivisorsWrong : ChangeSpec := { name := "bigintDivisors", fn := fun _ => fun
  | [d1, d2, d3] => { results := [.lit (.bool false)], args := [d1, d2, d3] }
  | _ => none }
def BigintDivisorsWrongFalsely : Prop := bigintDivisorsRow.holds Try.pinned (OpenSpec.ofChange bigintDivisorsWrong)

/-- 'halfplanelaw01.BigintRing': WHATEVER THE INPUT: true; the input reads as it did. -/
def bigintRingSpec : ChangeSpec := { name := "bigintRing", fn := fun _ => fun
  | [d1, d2, d3] => { results := [.lit (.bool true)], args := [d1, d2, d3] }
  | _ => none }
def bigintRingRow : OpenClaim := { program := "ytcakainebimmdaa", sum := "4489cb360382beeac8acd061d5fbc3645aee3f0ee02df9e8c426ba3feb9f1832", func := "halfplane/halfplanelaw01.BigintRing", spec := "bigintRing", named := ["math/bits.overflowError"], apart := false }
def BigintRingSaid : Prop := bigintRingRow.holds Try.pinned (OpenSpec.ofChange bigintRingSpec)

/-- ITS FALSE NEIGHBOUR: 'it returns false'. Refute it at one input. -/
def bigintRingWrong : ChangeSpec := { name := "bigintRing", fn := fun _ => fun
  | [d1, d2, d3] => { results := [.lit (.bool false)], args := [d1, d2, d3] }
  | _ => none }
def BigintRingWrongFalsely : Prop := bigintRingRow.holds Try.pinned (OpenSpec.ofChange bigintRingWrong)

/-- 'halfplanelaw01.BigintOperations': WHATEVER THE INPUT: true; the input reads as it did. -/
def bigintOperationsSpec : ChangeSpec := { name := "bigintOperations", fn := fun _ => fun
  | [d1, d2] => { results := [.lit (.bool true)], args := [d1, d2] }
  | _ => none }
def bigintOperationsRow : OpenClaim := { program := "ytcakainebimmdaa", sum := "4489cb360382beeac8acd061d5fbc3645aee3f0ee02df9e8c426ba3feb9f1832", func := "halfplane/halfplanelaw01.BigintOperations", spec := "bigintOperations", named := ["math/bits.overflowError"], apart := false }
def BigintOperationsSaid : Prop := bigintOperationsRow.holds Try.pinned (OpenSpec.ofChange bigintOperationsSpec)

/-- ITS FALSE NEIGHBOUR: 'it returns false'. Refute it at one input. -/
def bigintOperationsWrong : ChangeSpec := { name := "bigintOperations", fn := fun _ => fun
  | [d1, d2] => { results := [.lit (.bool false)], args := [d1, d2] }
  | _ => none }
def BigintOperationsWrongFalsely : Prop := bigintOperationsRow.holds Try.pinned (OpenSpec.ofChange bigintOperationsWrong)

/-- 'halfplanelaw01.BigintModular': WHATEVER THE INPUT: true; the input reads as it did. -/
def bigintModularSpec : ChangeSpec := { name := "bigintModular", fn := fun _ => fun
  | [d] => { results := [.lit (.bool true)], args := [d] }
  | _ => none }
def bigintModularRow : OpenClaim := { program := "ytcakainebimmdaa", sum := "4489cb360382beeac8acd061d5fbc3645aee3f0ee02df9e8c426ba3feb9f1832", func := "halfplane/halfplanelaw01.BigintModular", spec := "bigintModular", named := ["math/bits.overflowError"], apart := false }
def BigintModularSaid : Prop := bigintModularRow.holds Try.pinned (OpenSpec.ofChange bigintModularSpec)

/-- ITS FALSE NEIGHBOUR: 'it returns false'. Refute it at one input. -/
def bigintModularWrong : ChangeSpec := { name := "bigintModular", fn := fun _ => fun
  | [d] => { results := [.lit (.bool false)], args := [d] }
  | _ => none }
def BigintModularWrongFalsely : Prop := bigintModularRow.holds Try.pinned (OpenSpec.ofChange bigintModularWrong)

/-- 'halfplanelaw01.BigintBezout': WHATEVER THE INPUT: true; the input reads as it did. -/
def bigintBezoutSpec : ChangeSpec := { name := "bigintBezout", fn := fun _ => fun
  | [d1, d2] => { results := [.lit (.bool true)], args := [d1, d2] }
  | _ => none }
def bigintBezoutRow : OpenClaim := { program := "ytcakainebimmdaa", sum := "4489cb360382beeac8acd061d5fbc3645aee3f0ee02df9e8c426ba3feb9f1832", func := "halfplane/halfplanelaw01.BigintBezout", spec := "bigintBezout", named := ["math/bits.overflowError"], apart := false }
def BigintBezoutSaid : Prop := bigintBezoutRow.holds Try.pinned (OpenSpec.ofChange bigintBezoutSpec)

/-- ITS FALSE NEIGHBOUR: 'it returns false'. Refute it at one input. -/
def bigintBezoutWrong : ChangeSpec := { name := "bigintBezout", fn := fun _ => fun
  | [d1, d2] => { results := [.lit (.bool false)], args := [d1, d2] }
  | _ => none }
def BigintBezoutWrongFalsely : Prop := bigintBezoutRow.holds Try.pinned (OpenSpec.ofChange bigintBezoutWrong)

/-- 'halfplanelaw01.BigintMemory': WHATEVER THE INPUT: true; the input reads as it did. -/
def bigintMemorySpec : ChangeSpec := { name := "bigintMemory", fn := fun _ => fun
  | [d1, d2] => { results := [.lit (.bool true)], args := [d1, d2] }
  | _ => none }
def bigintMemoryRow : OpenClaim := { program := "ytcakainebimmdaa", sum := "4489cb360382beeac8acd061d5fbc3645aee3f0ee02df9e8c426ba3feb9f1832", func := "halfplane/halfplanelaw01.BigintMemory", spec := "bigintMemory", named := ["math/bits.overflowError"], apart := false }
def BigintMemorySaid : Prop := bigintMemoryRow.holds Try.pinned (OpenSpec.ofChange bigintMemorySpec)

/-- ITS FALSE NEIGHBOUR: 'it returns false'. Refute it at one input. -/
def bigintMemoryWrong : ChangeSpec := { name := "bigintMemory", fn := fun _ => fun
  | [d1, d2] => { results := [.lit (.bool false)], args := [d1, d2] }
  | _ => none }
def BigintMemoryWrongFalsely : Prop := bigintMemoryRow.holds Try.pinned (OpenSpec.ofChange bigintMemoryWrong)

/-- 'halfplanelaw01.BigintPowers': WHATEVER THE INPUT: true; the input reads as it did. -/
def bigintPowersSpec : ChangeSpec := { name := "bigintPowers", fn := fun _ => fun
  | [d1, d2, d3] => { results := [.lit (.bool true)], args := [d1, d2, d3] }
  | _ => none }
def bigintPowersRow : OpenClaim := { program := "ytcakainebimmdaa", sum := "4489cb360382beeac8acd061d5fbc3645aee3f0ee02df9e8c426ba3feb9f1832", func := "halfplane/halfplanelaw01.BigintPowers", spec := "bigintPowers", named := ["math/bits.overflowError"], apart := false }
def BigintPowersSaid : Prop := bigintPowersRow.holds Try.pinned (OpenSpec.ofChange bigintPowersSpec)

/-- ITS FALSE NEIGHBOUR: 'it returns false'. Refute it at one input. -/
def bigintPowersWrong : ChangeSpec := { name := "bigintPowers", fn := fun _ => fun
  | [d1, d2, d3] => { results := [.lit (.bool false)], args := [d1, d2, d3] }
  | _ => none }
def BigintPowersWrongFalsely : Prop := bigintPowersRow.holds Try.pinned (OpenSpec.ofChange bigintPowersWrong)

/-- 'halfplanelaw01.BigintRoots': WHATEVER THE INPUT: true; the input reads as it did. -/
def bigintRootsSpec : ChangeSpec := { name := "bigintRoots", fn := fun _ => fun
  | [d] => { results := [.lit (.bool true)], args := [d] }
  | _ => none }
def bigintRootsRow : OpenClaim := { program := "ytcakainebimmdaa", sum := "4489cb360382beeac8acd061d5fbc3645aee3f0ee02df9e8c426ba3feb9f1832", func := "halfplane/halfplanelaw01.BigintRoots", spec := "bigintRoots", named := ["math/bits.overflowError"], apart := false }
def BigintRootsSaid : Prop := bigintRootsRow.holds Try.pinned (OpenSpec.ofChange bigintRootsSpec)

/-- ITS FALSE NEIGHBOUR: 'it returns false'. Refute it at one input. -/
def bigintRootsWrong : ChangeSpec := { name := "bigintRoots", fn := fun _ => fun
  | [d] => { results := [.lit (.bool false)], args := [d] }
  | _ => none }
def BigintRootsWrongFalsely : Prop := bigintRootsRow.holds Try.pinned (OpenSpec.ofChange bigintRootsWrong)

/- THE SECOND FORM. 'bulk': how many values and letters a reading holds, each counted each time it is reached (what is shared counts as often as it is met; a slice's spare places count too). A statement '..UptoSaid' is the law's where the arguments, and the package variables that the reading takes, are together of bulk at most 1048576: NARROWER than '..Said'. Prove '..Said' where nothing that the law and all that it calls make is longer than what came in: it says more and counts as full. Else prove '..UptoSaid'. A law counts once. -/
mutual
def uptoBulk {H : Type} : DataW H → Nat
  | .lit (.string bytes) => bytes.length + 1
  | .lit _ => 1
  | .nil => 1
  | .ptr d => uptoBulk d + 1
  | .slice elems spare => uptoBulkAll elems + uptoBulkAll spare + 1
  | .agg parts => uptoBulkAll parts + 1
  | .iface _ d => uptoBulk d + 1
  | .map entries => uptoBulkEntries entries + 1
  | .held _ => 1
def uptoBulkAll {H : Type} : List (DataW H) → Nat
  | [] => 0
  | d :: r => uptoBulk d + uptoBulkAll r
def uptoBulkEntries {H : Type} : List (Lit × DataW H) → Nat
  | [] => 0
  | x :: r => uptoBulkEntry x + uptoBulkEntries r
def uptoBulkEntry {H : Type} : Lit × DataW H → Nat
  | (.string bytes, d) => bytes.length + uptoBulk d + 1
  | (_, d) => uptoBulk d + 1
 end
def uptoSmall : (H : Type) → List (DataW H) → Bool := fun _ ds => decide (uptoBulkAll ds ≤ 1048576)
def OpenSpec.upto (s : _root_.Go.ChangeSpec) : _root_.Go.OpenSpec := { _root_.Go.OpenSpec.ofChange s with cond := some uptoSmall }

/-- 'halfplanelaw01.BigintConverts', WHERE WHAT IT READS IS OF BULK AT MOST 1048576: true; the input reads as it did. -/
def bigintConvertsUptoRow : OpenClaim := { program := "ytcakainebimmdaa", sum := "4489cb360382beeac8acd061d5fbc3645aee3f0ee02df9e8c426ba3feb9f1832", func := "halfplane/halfplanelaw01.BigintConverts", spec := "bigintConverts", named := ["math/bits.overflowError"], apart := false, narrowed := true }
def BigintConvertsUptoSaid : Prop := bigintConvertsUptoRow.holds Try.pinned (OpenSpec.upto bigintConvertsSpec)

/-- 'halfplanelaw01.BigintStrings', WHERE WHAT IT READS IS OF BULK AT MOST 1048576: true; the input reads as it did. -/
def bigintStringsUptoRow : OpenClaim := { program := "ytcakainebimmdaa", sum := "4489cb360382beeac8acd061d5fbc3645aee3f0ee02df9e8c426ba3feb9f1832", func := "halfplane/halfplanelaw01.BigintStrings", spec := "bigintStrings", named := ["math/bits.overflowError"], apart := false, narrowed := true }
def BigintStringsUptoSaid : Prop := bigintStringsUptoRow.holds Try.pinned (OpenSpec.upto bigintStringsSpec)

/-- 'halfplanelaw01.BigintDivides', WHERE WHAT IT READS IS OF BULK AT MOST 1048576: true; the input reads as it did. -/
def bigintDividesUptoRow : OpenClaim := { program := "ytcakainebimmdaa", sum := "4489cb360382beeac8acd061d5fbc3645aee3f0ee02df9e8c426ba3feb9f1832", func := "halfplane/halfplanelaw01.BigintDivides", spec := "bigintDivides", named := ["math/bits.overflowError"], apart := false, narrowed := true }
def BigintDividesUptoSaid : Prop := bigintDividesUptoRow.holds Try.pinned (OpenSpec.upto bigintDividesSpec)

/-- 'halfplanelaw01.BigintDivisors', WHERE WHAT IT READS IS OF BULK AT MOST 1048576: true; the input reads as it did. -/
def bigintDivisorsUptoRow : OpenClaim := { program := "ytcakainebimmdaa", sum := "4489cb360382beeac8acd061d5fbc3645aee3f0ee02df9e8c426ba3feb9f1832", func := "halfplane/halfplanelaw01.BigintDivisors", spec := "bigintDivisors", named := ["math/bits.overflowError"], apart := false, narrowed := true }
def BigintDivisorsUptoSaid : Prop := bigintDivisorsUptoRow.holds Try.pinned (OpenSpec.upto bigintDivisorsSpec)

/-- 'halfplanelaw01.BigintRing', WHERE WHAT IT READS IS OF BULK AT MOST 1048576: true; the input reads as it did. -/
def bigintRingUptoRow : OpenClaim := { program := "ytcakainebimmdaa", sum := "4489cb360382beeac8acd061d5fbc3645aee3f0ee02df9e8c426ba3feb9f1832", func := "halfplane/halfplanelaw01.BigintRing", spec := "bigintRing", named := ["math/bits.overflowError"], apart := false, narrowed := true }
def BigintRingUptoSaid : Prop := bigintRingUptoRow.holds Try.pinned (OpenSpec.upto bigintRingSpec)

/-- 'halfplanelaw01.BigintOperations', WHERE WHAT IT READS IS OF BULK AT MOST 1048576: true; the input reads as it did. -/
def bigintOperationsUptoRow : OpenClaim := { program := "ytcakainebimmdaa", sum := "4489cb360382beeac8acd061d5fbc3645aee3f0ee02df9e8c426ba3feb9f1832", func := "halfplane/halfplanelaw01.BigintOperations", spec := "bigintOperations", named := ["math/bits.overflowError"], apart := false, narrowed := true }
def BigintOperationsUptoSaid : Prop := bigintOperationsUptoRow.holds Try.pinned (OpenSpec.upto bigintOperationsSpec)

/-- 'halfplanelaw01.BigintModular', WHERE WHAT IT READS IS OF BULK AT MOST 1048576: true; the input reads as it did. -/
def bigintModularUptoRow : OpenClaim := { program := "ytcakainebimmdaa", sum := "4489cb360382beeac8acd061d5fbc3645aee3f0ee02df9e8c426ba3feb9f1832", func := "halfplane/halfplanelaw01.BigintModular", spec := "bigintModular", named := ["math/bits.overflowError"], apart := false, narrowed := true }
def BigintModularUptoSaid : Prop := bigintModularUptoRow.holds Try.pinned (OpenSpec.upto bigintModularSpec)

/-- 'halfplanelaw01.BigintBezout', WHERE WHAT IT READS IS OF BULK AT MOST 1048576: true; the input reads as it did. -/
def bigintBezoutUptoRow : OpenClaim := { program := "ytcakainebimmdaa", sum := "4489cb360382beeac8acd061d5fbc3645aee3f0ee02df9e8c426ba3feb9f1832", func := "halfplane/halfplanelaw01.BigintBezout", spec := "bigintBezout", named := ["math/bits.overflowError"], apart := false, narrowed := true }
def BigintBezoutUptoSaid : Prop := bigintBezoutUptoRow.holds Try.pinned (OpenSpec.upto bigintBezoutSpec)

/-- 'halfplanelaw01.BigintMemory', WHERE WHAT IT READS IS OF BULK AT MOST 1048576: true; the input reads as it did. -/
def bigintMemoryUptoRow : OpenClaim := { program := "ytcakainebimmdaa", sum := "4489cb360382beeac8acd061d5fbc3645aee3f0ee02df9e8c426ba3feb9f1832", func := "halfplane/halfplanelaw01.BigintMemory", spec := "bigintMemory", named := ["math/bits.overflowError"], apart := false, narrowed := true }
def BigintMemoryUptoSaid : Prop := bigintMemoryUptoRow.holds Try.pinned (OpenSpec.upto bigintMemorySpec)

/-- 'halfplanelaw01.BigintPowers', WHERE WHAT IT READS IS OF BULK AT MOST 1048576: true; the input reads as it did. -/
def bigintPowersUptoRow : OpenClaim := { program := "ytcakainebimmdaa", sum := "4489cb360382beeac8acd061d5fbc3645aee3f0ee02df9e8c426ba3feb9f1832", func := "halfplane/halfplanelaw01.BigintPowers", spec := "bigintPowers", named := ["math/bits.overflowError"], apart := false, narrowed := true }
def BigintPowersUptoSaid : Prop := bigintPowersUptoRow.holds Try.pinned (OpenSpec.upto bigintPowersSpec)

/-- 'halfplanelaw01.BigintRoots', WHERE WHAT IT READS IS OF BULK AT MOST 1048576: true; the input reads as it did. -/
def bigintRootsUptoRow : OpenClaim := { program := "ytcakainebimmdaa", sum := "4489cb360382beeac8acd061d5fbc3645aee3f0ee02df9e8c426ba3feb9f1832", func := "halfplane/halfplanelaw01.BigintRoots", spec := "bigintRoots", named := ["math/bits.overflowError"], apart := false, narrowed := true }
def BigintRootsUptoSaid : Prop := bigintRootsUptoRow.holds Try.pinned (OpenSpec.upto bigintRootsSpec)

end Rows
end Go.Proofs.Ytcakainebimmdaa
