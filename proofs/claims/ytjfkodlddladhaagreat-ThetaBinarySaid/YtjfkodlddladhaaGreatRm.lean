/- From a law's contract to its row: matrices and rows of fractions as arguments. -/
import Derived.Test.YtjfkodlddladhaaGreatR
import Derived.Test.YtjfkodlddladhaaGreatM18
import Derived.Test.YtjfkodlddladhaaGreatM35
import Derived.Deep.Slices
import Derived.Deep.Strs
namespace Go.Proofs.YtjfkodlddladhaaGreat
open Go.Hp Go.ChangeShapes Go.WideShapes Go.ChangeAt Go.RowKit Go.Joins
theorem arr3 (T : Array Value) (h : T.size = 3) : ∃ a b c : Value, T = #[a, b, c] := by
  obtain ⟨l⟩ := T
  match l, h with
  | [a, b, c], _ => exact ⟨a, b, c, rfl⟩
section
variable {H : Type} {enc : TypeId × Value → H}
end
end Go.Proofs.YtjfkodlddladhaaGreat
