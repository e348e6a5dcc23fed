/-
  DERIVED. GIVEN WITH THE SEED: THE CARDS: each row of YtnjpkncacddplaaGreatDoorRows.lean that lists a variable, with what it lists TIED to the program's text (the seventh form; the later family's looks); each row that meets fmt, with fmt's text TOLD by the authors' own Lean function (tested against real Go, not proved from fmt's source: count such statements apart). THE CARD IS WHAT COUNTS. Prove the row's statement (the work); the ties are given (YtnjpkncacddplaaGreatDoorTie.lean); close each card by the builder's one call (the guide's Derived/Test/ToyasCard.lean, 'card_holds'). Laid BY PROGRAM, IN A SANDBOX (cutbox-door.mjs). By AI agents, Wed Nov 11 2026. No macro, syntax, notation, axiom, sorry.
-/
import Derived.Test.YtnjpkncacddplaaGreatDoorRows
import GoSem.ClaimSeven
namespace Go.Proofs.YtnjpkncacddplaaGreatDoor
namespace Rows

/-- THE TIED CARD OF 'halfplanetop.TopAbelian'. -/
def topAbelianCard : Claim7 := { stood := { row := topAbelianRow, standIns := [], harness := (true, "2240dc46bd123623b24dd5cb68d0568577ed80cbfdcd607ea0f59bfe256e6532"), looks := false }, kinds := [], alts := [], laidByText := true, laidKinds := [.data], laidTests := true, laidLooks := .later }
def TopAbelianCardSaid : Prop := Claim7.holds Tryz.pinned (.plain (OpenSpec.ofChange topAbelianSpec)) topAbelianCard

/-- THE TIED CARD OF 'halfplanetop.TopRepresentations'. -/
def topRepresentationsCard : Claim7 := { stood := { row := topRepresentationsRow, standIns := [], harness := (true, "2240dc46bd123623b24dd5cb68d0568577ed80cbfdcd607ea0f59bfe256e6532"), looks := false }, kinds := [], alts := [], laidByText := true, laidKinds := [.data], laidTests := true, laidLooks := .later }
def TopRepresentationsCardSaid : Prop := Claim7.holds Tryz.pinned (.plain (OpenSpec.ofChange topRepresentationsSpec)) topRepresentationsCard

/-- THE TIED CARD OF 'halfplanetop.TopSquares'. -/
def topSquaresCard : Claim7 := { stood := { row := topSquaresRow, standIns := [], harness := (true, "2240dc46bd123623b24dd5cb68d0568577ed80cbfdcd607ea0f59bfe256e6532"), looks := false }, kinds := [], alts := [], laidByText := true, laidKinds := [.data], laidTests := true, laidLooks := .later }
def TopSquaresCardSaid : Prop := Claim7.holds Tryz.pinned (.plain (OpenSpec.ofChange topSquaresSpec)) topSquaresCard

/-- THE TIED CARD OF 'halfplanetop.TopReciprocity'. -/
def topReciprocityCard : Claim7 := { stood := { row := topReciprocityRow, standIns := [], harness := (true, "2240dc46bd123623b24dd5cb68d0568577ed80cbfdcd607ea0f59bfe256e6532"), looks := false }, kinds := [], alts := [], laidByText := true, laidKinds := [.data], laidTests := true, laidLooks := .later }
def TopReciprocityCardSaid : Prop := Claim7.holds Tryz.pinned (.plain (OpenSpec.ofChange topReciprocitySpec)) topReciprocityCard

/-- THE SECOND FORM's CARD OF 'halfplanetop.TopAbelian'. -/
def topAbelianUptoCard : Claim7 := { stood := { row := topAbelianUptoRow, standIns := [], harness := (true, "2240dc46bd123623b24dd5cb68d0568577ed80cbfdcd607ea0f59bfe256e6532"), looks := false }, kinds := [], alts := [], laidByText := true, laidKinds := [.data], laidTests := true, laidLooks := .later }
def TopAbelianUptoCardSaid : Prop := Claim7.holds Tryz.pinned (.plain (OpenSpec.upto topAbelianSpec)) topAbelianUptoCard

/-- THE SECOND FORM's CARD OF 'halfplanetop.TopRepresentations'. -/
def topRepresentationsUptoCard : Claim7 := { stood := { row := topRepresentationsUptoRow, standIns := [], harness := (true, "2240dc46bd123623b24dd5cb68d0568577ed80cbfdcd607ea0f59bfe256e6532"), looks := false }, kinds := [], alts := [], laidByText := true, laidKinds := [.data], laidTests := true, laidLooks := .later }
def TopRepresentationsUptoCardSaid : Prop := Claim7.holds Tryz.pinned (.plain (OpenSpec.upto topRepresentationsSpec)) topRepresentationsUptoCard

/-- THE SECOND FORM's CARD OF 'halfplanetop.TopSquares'. -/
def topSquaresUptoCard : Claim7 := { stood := { row := topSquaresUptoRow, standIns := [], harness := (true, "2240dc46bd123623b24dd5cb68d0568577ed80cbfdcd607ea0f59bfe256e6532"), looks := false }, kinds := [], alts := [], laidByText := true, laidKinds := [.data], laidTests := true, laidLooks := .later }
def TopSquaresUptoCardSaid : Prop := Claim7.holds Tryz.pinned (.plain (OpenSpec.upto topSquaresSpec)) topSquaresUptoCard

/-- THE SECOND FORM's CARD OF 'halfplanetop.TopReciprocity'. -/
def topReciprocityUptoCard : Claim7 := { stood := { row := topReciprocityUptoRow, standIns := [], harness := (true, "2240dc46bd123623b24dd5cb68d0568577ed80cbfdcd607ea0f59bfe256e6532"), looks := false }, kinds := [], alts := [], laidByText := true, laidKinds := [.data], laidTests := true, laidLooks := .later }
def TopReciprocityUptoCardSaid : Prop := Claim7.holds Tryz.pinned (.plain (OpenSpec.upto topReciprocitySpec)) topReciprocityUptoCard
end Rows
end Go.Proofs.YtnjpkncacddplaaGreatDoor
