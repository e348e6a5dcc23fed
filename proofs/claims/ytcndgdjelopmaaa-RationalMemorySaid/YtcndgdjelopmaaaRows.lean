/-
  No cell of these rows narrows 'for every input' (looked for: loops, veiled, ifaces, maps, wideKeys, modest, calm, conditions, laid).
  DERIVED. THE GIVEN ROWS OF THIS SEAT. 8 by the template 'for every input the law returns true; each argument reads behind the call as it read before'; 0 by the template 'total and deterministic' (their statements: YtcndgdjelopmaaaTotals.lean).
  GIVEN WITH THE SEED: the statements are not yours to turn. If you find one false, say at which input.
  Laid BY PROGRAM, IN A SANDBOX (cutbox-rows.mjs): the forced cells as the released guide's own fill.sh prints them over the translation 53480d90fe4276bd… (all of the seat's roots in one cut). By AI agents, Wed Nov 11 2026. No macro, syntax, notation, axiom, sorry.
-/
import Derived.Test.YtcndgdjelopmaaaChecked
import GoSem.Claim
import GoSem.ClaimJoined
import GoSem.ClaimMapViews
import Derived.JoinedTies
import Derived.KernelRfl
namespace Go.Proofs.Ytcndgdjelopmaaa
/- THE CELL 'sum', in the pinned program and in every row, IS THE sha256 OF THE DUMP (.gsa) THAT YtcndgdjelopmaaaProg.lean LOADS. Nothing in Lean hashes anything: it is a label: what it is worth is what the hold of that sum in a sandbox is worth. -/
noncomputable def Try.pinned : Pinned := { name := "ytcndgdjelopmaaa", sum := "53480d90fe4276bd37c7faa41065d846a4e47cafccaec9925b2767c729f945ef", checked := Try.checked }
namespace Rows
def none {H : Type} : Left H := { results := [], args := [] }

/-- 'halfplanelaw02.RationalSimplest': WHATEVER THE INPUT: true; the input reads as it did. -/
def rationalSimplestSpec : ChangeSpec := { name := "rationalSimplest", fn := fun _ => fun
  | [d] => { results := [.lit (.bool true)], args := [d] }
  | _ => none }
def rationalSimplestRow : OpenClaim := { program := "ytcndgdjelopmaaa", sum := "53480d90fe4276bd37c7faa41065d846a4e47cafccaec9925b2767c729f945ef", func := "halfplane/halfplanelaw02.RationalSimplest", spec := "rationalSimplest", recurses := true, named := ["math/bits.overflowError"], apart := false }
def RationalSimplestSaid : Prop := rationalSimplestRow.holds Try.pinned (OpenSpec.ofChange rationalSimplestSpec)

/-- ITS FALSE NEIGHBOUR: 'it returns false'. Refute it at one input. -/
def rationalSimplestWrong : ChangeSpec := { name := "rationalSimplest", fn := fun _ => fun
  | [d] => { results := [.lit (.bool false)], args := [d] }
  | _ => none }
def RationalSimplestWrongFalsely : Prop := rationalSimplestRow.holds Try.pinned (OpenSpec.ofChange rationalSimplestWrong)

/-- 'halfplanelaw02.RationalField': WHATEVER THE INPUT: true; the input reads as it did. -/
def rationalFieldSpec : ChangeSpec := { name := "rationalField", fn := fun _ => fun
  | [d1, d2, d3] => { results := [.lit (.bool true)], args := [d1, d2, d3] }
  | _ => none }
def rationalFieldRow : OpenClaim := { program := "ytcndgdjelopmaaa", sum := "53480d90fe4276bd37c7faa41065d846a4e47cafccaec9925b2767c729f945ef", func := "halfplane/halfplanelaw02.RationalField", spec := "rationalField", recurses := true, named := ["math/bits.overflowError"], apart := false }
def RationalFieldSaid : Prop := rationalFieldRow.holds Try.pinned (OpenSpec.ofChange rationalFieldSpec)

/-- ITS FALSE NEIGHBOUR: 'it returns false'. Refute it at one input. -/
def rationalFieldWrong : ChangeSpec := { name := "rationalField", fn := fun _ => fun
  | [d1, d2, d3] => { results := [.lit (.bool false)], args := [d1, d2, d3] }
  | _ => none }
def RationalFieldWrongFalsely : Prop := rationalFieldRow.holds Try.pinned (OpenSpec.ofChange rationalFieldWrong)

/-- 'halfplanelaw02.RationalBetween': WHATEVER THE INPUT: true; the input reads as it did. -/
def rationalBetweenSpec : ChangeSpec := { name := "rationalBetween", fn := fun _ => fun
  | [d1, d2, d3] => { results := [.lit (.bool true)], args := [d1, d2, d3] }
  | _ => none }
def rationalBetweenRow : OpenClaim := { program := "ytcndgdjelopmaaa", sum := "53480d90fe4276bd37c7faa41065d846a4e47cafccaec9925b2767c729f945ef", func := "halfplane/halfplanelaw02.RationalBetween", spec := "rationalBetween", recurses := true, named := ["math/bits.overflowError"], apart := false }
def RationalBetweenSaid : Prop := rationalBetweenRow.holds Try.pinned (OpenSpec.ofChange rationalBetweenSpec)

/-- ITS FALSE NEIGHBOUR: 'it returns false'. Refute it at one input. -/
def rationalBetweenWrong : ChangeSpec := { name := "rationalBetween", fn := fun _ => fun
  | [d1, d2, d3] => { results := [.lit (.bool false)], args := [d1, d2, d3] }
  | _ => none }
def RationalBetweenWrongFalsely : Prop := rationalBetweenRow.holds Try.pinned (OpenSpec.ofChange rationalBetweenWrong)

/-- 'halfplanelaw02.RationalRounds': WHATEVER THE INPUT: true; the input reads as it did. -/
def rationalRoundsSpec : ChangeSpec := { name := "rationalRounds", fn := fun _ => fun
  | [d] => { results := [.lit (.bool true)], args := [d] }
  | _ => none }
def rationalRoundsRow : OpenClaim := { program := "ytcndgdjelopmaaa", sum := "53480d90fe4276bd37c7faa41065d846a4e47cafccaec9925b2767c729f945ef", func := "halfplane/halfplanelaw02.RationalRounds", spec := "rationalRounds", recurses := true, named := ["math/bits.overflowError"], apart := false }
def RationalRoundsSaid : Prop := rationalRoundsRow.holds Try.pinned (OpenSpec.ofChange rationalRoundsSpec)

/-- ITS FALSE NEIGHBOUR: 'it returns false'. Refute it at one input. -/
def rationalRoundsWrong : ChangeSpec := { name := "rationalRounds", fn := fun _ => fun
  | [d] => { results := [.lit (.bool false)], args := [d] }
  | _ => none }
def RationalRoundsWrongFalsely : Prop := rationalRoundsRow.holds Try.pinned (OpenSpec.ofChange rationalRoundsWrong)

/-- 'halfplanelaw02.RationalOperations': WHATEVER THE INPUT: true; the input reads as it did. -/
def rationalOperationsSpec : ChangeSpec := { name := "rationalOperations", fn := fun _ => fun
  | [d1, d2] => { results := [.lit (.bool true)], args := [d1, d2] }
  | _ => none }
def rationalOperationsRow : OpenClaim := { program := "ytcndgdjelopmaaa", sum := "53480d90fe4276bd37c7faa41065d846a4e47cafccaec9925b2767c729f945ef", func := "halfplane/halfplanelaw02.RationalOperations", spec := "rationalOperations", recurses := true, named := ["math/bits.overflowError"], apart := false }
def RationalOperationsSaid : Prop := rationalOperationsRow.holds Try.pinned (OpenSpec.ofChange rationalOperationsSpec)

/-- ITS FALSE NEIGHBOUR: 'it returns false'. Refute it at one input. -/
def rationalOperationsWrong : ChangeSpec := { name := "rationalOperations", fn := fun _ => fun
  | [d1, d2] => { results := [.lit (.bool false)], args := [d1, d2] }
  | _ => none }
def RationalOperationsWrongFalsely : Prop := rationalOperationsRow.holds Try.pinned (OpenSpec.ofChange rationalOperationsWrong)

/-- 'halfplanelaw02.RationalMemory': WHATEVER THE INPUT: true; the input reads as it did. -/
def rationalMemorySpec : ChangeSpec := { name := "rationalMemory", fn := fun _ => fun
  | [d1, d2] => { results := [.lit (.bool true)], args := [d1, d2] }
  | _ => none }
def rationalMemoryRow : OpenClaim := { program := "ytcndgdjelopmaaa", sum := "53480d90fe4276bd37c7faa41065d846a4e47cafccaec9925b2767c729f945ef", func := "halfplane/halfplanelaw02.RationalMemory", spec := "rationalMemory", recurses := true, named := ["math/bits.overflowError"], apart := false }
def RationalMemorySaid : Prop := rationalMemoryRow.holds Try.pinned (OpenSpec.ofChange rationalMemorySpec)

/-- ITS FALSE NEIGHBOUR: 'it returns false'. Refute it at one input. -/
def rationalMemoryWrong : ChangeSpec := { name := "rationalMemory", fn := fun _ => fun
  | [d1, d2] => { results := [.lit (.bool false)], args := [d1, d2] }
  | _ => none }
def RationalMemoryWrongFalsely : Prop := rationalMemoryRow.holds Try.pinned (OpenSpec.ofChange rationalMemoryWrong)

/-- 'halfplanelaw02.RationalConverts': WHATEVER THE INPUT: true; the input reads as it did. -/
def rationalConvertsSpec : ChangeSpec := { name := "rationalConverts", fn := fun _ => fun
  | [d1, d2] => { results := [.lit (.bool true)], args := [d1, d2] }
  | _ => none }
def rationalConvertsRow : OpenClaim := { program := "ytcndgdjelopmaaa", sum := "53480d90fe4276bd37c7faa41065d846a4e47cafccaec9925b2767c729f945ef", func := "halfplane/halfplanelaw02.RationalConverts", spec := "rationalConverts", recurses := true, named := ["math/bits.overflowError"], apart := false }
def RationalConvertsSaid : Prop := rationalConvertsRow.holds Try.pinned (OpenSpec.ofChange rationalConvertsSpec)

/-- ITS FALSE NEIGHBOUR: 'it returns false'. Refute it at one input. -/
def rationalConvertsWrong : ChangeSpec := { name := "rationalConverts", fn := fun _ => fun
  | [d1, d2] => { results := [.lit (.bool false)], args := [d1, d2] }
  | _ => none }
def RationalConvertsWrongFalsely : Prop := rationalConvertsRow.holds Try.pinned (OpenSpec.ofChange rationalConvertsWrong)

/-- 'halfplanelaw02.RationalPowers': WHATEVER THE INPUT: true; the input reads as it did. -/
def rationalPowersSpec : ChangeSpec := { name := "rationalPowers", fn := fun _ => fun
  | [d1, d2, d3] => { results := [.lit (.bool true)], args := [d1, d2, d3] }
  | _ => none }
def rationalPowersRow : OpenClaim := { program := "ytcndgdjelopmaaa", sum := "53480d90fe4276bd37c7faa41065d846a4e47cafccaec9925b2767c729f945ef", func := "halfplane/halfplanelaw02.RationalPowers", spec := "rationalPowers", recurses := true, named := ["math/bits.overflowError"], apart := false }
def RationalPowersSaid : Prop := rationalPowersRow.holds Try.pinned (OpenSpec.ofChange rationalPowersSpec)

/-- ITS FALSE NEIGHBOUR: 'it returns false'. Refute it at one input. -/
def rationalPowersWrong : ChangeSpec := { name := "rationalPowers", fn := fun _ => fun
  | [d1, d2, d3] => { results := [.lit (.bool false)], args := [d1, d2, d3] }
  | _ => none }
def RationalPowersWrongFalsely : Prop := rationalPowersRow.holds Try.pinned (OpenSpec.ofChange rationalPowersWrong)

/- THE SECOND FORM. 'bulk': how many values and letters a reading holds, each counted each time it is reached (what is shared counts as often as it is met; a slice's spare places count too). A statement '..UptoSaid' is the law's where the arguments, and the package variables that the reading takes, are together of bulk at most 1048576: NARROWER than '..Said'. Prove '..Said' where nothing that the law and all that it calls make is longer than what came in: it says more and counts as full. Else prove '..UptoSaid'. A law counts once. -/
mutual
def uptoBulk {H : Type} : DataW H → Nat
  | .lit (.string bytes) => bytes.length + 1
  | .lit _ => 1
  | .nil => 1
  | .ptr d => uptoBulk d + 1
  | .slice elems spare => uptoBulkAll elems + uptoBulkAll spare + 1
  | .agg parts => uptoBulkAll parts + 1
  | .iface _ d => uptoBulk d + 1
  | .map entries => uptoBulkEntries entries + 1
  | .held _ => 1
def uptoBulkAll {H : Type} : List (DataW H) → Nat
  | [] => 0
  | d :: r => uptoBulk d + uptoBulkAll r
def uptoBulkEntries {H : Type} : List (Lit × DataW H) → Nat
  | [] => 0
  | x :: r => uptoBulkEntry x + uptoBulkEntries r
def uptoBulkEntry {H : Type} : Lit × DataW H → Nat
  | (.string bytes, d) => bytes.length + uptoBulk d + 1
  | (_, d) => uptoBulk d + 1
 end
def uptoSmall : (H : Type) → List (DataW H) → Bool := fun _ ds => decide (uptoBulkAll ds ≤ 1048576)
def OpenSpec.upto (s : _root_.Go.ChangeSpec) : _root_.Go.OpenSpec := { _root_.Go.OpenSpec.ofChange s with cond := some uptoSmall }

/-- 'halfplanelaw02.RationalSimplest', WHERE WHAT IT READS IS OF BULK AT MOST 1048576: true; the input reads as it did. -/
def rationalSimplestUptoRow : OpenClaim := { program := "ytcndgdjelopmaaa", sum := "53480d90fe4276bd37c7faa41065d846a4e47cafccaec9925b2767c729f945ef", func := "halfplane/halfplanelaw02.RationalSimplest", spec := "rationalSimplest", recurses := true, named := ["math/bits.overflowError"], apart := false, narrowed := true }
def RationalSimplestUptoSaid : Prop := rationalSimplestUptoRow.holds Try.pinned (OpenSpec.upto rationalSimplestSpec)

/-- 'halfplanelaw02.RationalField', WHERE WHAT IT READS IS OF BULK AT MOST 1048576: true; the input reads as it did. -/
def rationalFieldUptoRow : OpenClaim := { program := "ytcndgdjelopmaaa", sum := "53480d90fe4276bd37c7faa41065d846a4e47cafccaec9925b2767c729f945ef", func := "halfplane/halfplanelaw02.RationalField", spec := "rationalField", recurses := true, named := ["math/bits.overflowError"], apart := false, narrowed := true }
def RationalFieldUptoSaid : Prop := rationalFieldUptoRow.holds Try.pinned (OpenSpec.upto rationalFieldSpec)

/-- 'halfplanelaw02.RationalBetween', WHERE WHAT IT READS IS OF BULK AT MOST 1048576: true; the input reads as it did. -/
def rationalBetweenUptoRow : OpenClaim := { program := "ytcndgdjelopmaaa", sum := "53480d90fe4276bd37c7faa41065d846a4e47cafccaec9925b2767c729f945ef", func := "halfplane/halfplanelaw02.RationalBetween", spec := "rationalBetween", recurses := true, named := ["math/bits.overflowError"], apart := false, narrowed := true }
def RationalBetweenUptoSaid : Prop := rationalBetweenUptoRow.holds Try.pinned (OpenSpec.upto rationalBetweenSpec)

/-- 'halfplanelaw02.RationalRounds', WHERE WHAT IT READS IS OF BULK AT MOST 1048576: true; the input reads as it did. -/
def rationalRoundsUptoRow : OpenClaim := { program := "ytcndgdjelopmaaa", sum := "53480d90fe4276bd37c7faa41065d846a4e47cafccaec9925b2767c729f945ef", func := "halfplane/halfplanelaw02.RationalRounds", spec := "rationalRounds", recurses := true, named := ["math/bits.overflowError"], apart := false, narrowed := true }
def RationalRoundsUptoSaid : Prop := rationalRoundsUptoRow.holds Try.pinned (OpenSpec.upto rationalRoundsSpec)

/-- 'halfplanelaw02.RationalOperations', WHERE WHAT IT READS IS OF BULK AT MOST 1048576: true; the input reads as it did. -/
def rationalOperationsUptoRow : OpenClaim := { program := "ytcndgdjelopmaaa", sum := "53480d90fe4276bd37c7faa41065d846a4e47cafccaec9925b2767c729f945ef", func := "halfplane/halfplanelaw02.RationalOperations", spec := "rationalOperations", recurses := true, named := ["math/bits.overflowError"], apart := false, narrowed := true }
def RationalOperationsUptoSaid : Prop := rationalOperationsUptoRow.holds Try.pinned (OpenSpec.upto rationalOperationsSpec)

/-- 'halfplanelaw02.RationalMemory', WHERE WHAT IT READS IS OF BULK AT MOST 1048576: true; the input reads as it did. -/
def rationalMemoryUptoRow : OpenClaim := { program := "ytcndgdjelopmaaa", sum := "53480d90fe4276bd37c7faa41065d846a4e47cafccaec9925b2767c729f945ef", func := "halfplane/halfplanelaw02.RationalMemory", spec := "rationalMemory", recurses := true, named := ["math/bits.overflowError"], apart := false, narrowed := true }
def RationalMemoryUptoSaid : Prop := rationalMemoryUptoRow.holds Try.pinned (OpenSpec.upto rationalMemorySpec)

/-- 'halfplanelaw02.RationalConverts', WHERE WHAT IT READS IS OF BULK AT MOST 1048576: true; the input reads as it did. -/
def rationalConvertsUptoRow : OpenClaim := { program := "ytcndgdjelopmaaa", sum := "53480d90fe4276bd37c7faa41065d846a4e47cafccaec9925b2767c729f945ef", func := "halfplane/halfplanelaw02.RationalConverts", spec := "rationalConverts", recurses := true, named := ["math/bits.overflowError"], apart := false, narrowed := true }
def RationalConvertsUptoSaid : Prop := rationalConvertsUptoRow.holds Try.pinned (OpenSpec.upto rationalConvertsSpec)

/-- 'halfplanelaw02.RationalPowers', WHERE WHAT IT READS IS OF BULK AT MOST 1048576: true; the input reads as it did. -/
def rationalPowersUptoRow : OpenClaim := { program := "ytcndgdjelopmaaa", sum := "53480d90fe4276bd37c7faa41065d846a4e47cafccaec9925b2767c729f945ef", func := "halfplane/halfplanelaw02.RationalPowers", spec := "rationalPowers", recurses := true, named := ["math/bits.overflowError"], apart := false, narrowed := true }
def RationalPowersUptoSaid : Prop := rationalPowersUptoRow.holds Try.pinned (OpenSpec.upto rationalPowersSpec)

end Rows
end Go.Proofs.Ytcndgdjelopmaaa
