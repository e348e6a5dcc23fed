/- From a law's contract to its row: machine integers, lists of integers, matrices of both as arguments. -/
import Derived.Test.YtjfkodlddladhaaGreatR
import Derived.Test.YtjfkodlddladhaaGreatM18
import Derived.Test.YtjfkodlddladhaaGreatM35
import Derived.Deep.Slices
import Derived.Deep.Strs
import Derived.Test.YtjfkodlddladhaaGreatVz
namespace Go.Proofs.YtjfkodlddladhaaGreat
open Go.Hp Go.ChangeShapes Go.WideShapes Go.ChangeAt Go.RowKit Go.Joins
def Xz (U : UH) (v : Value) (z : Int) : Prop := ∃ x : IV, v = x.v ∧ x.rep U [] z
theorem kept_xz : Kept Xz := fun _ _ _ _ hU ⟨x, h1, h2⟩ => ⟨x, h1, h2.up hU (List.Sublist.refl _)⟩
instance : KeptC Xz := ⟨kept_xz⟩
structure RawO {α : Type} (ok : UH → Value → α → Prop) (s : Nat) (U : UH) (v : Value) (r c : Int) (n : Nat) (f : Nat → α) : Prop where
  rows : -9223372036854775808 ≤ r ∧ r ≤ 9223372036854775807
  cols : -9223372036854775808 ≤ c ∧ c ≤ 9223372036854775807
  num : n ≤ 9223372036854775807
  elt : ∃ a, v = .agg #[.int .i64 r, .int .i64 c, a] ∧ Ls ok s n U [] a f
theorem RawO.up {U U' : UH} {α : Type} {ok : UH → Value → α → Prop} [KeptC ok] {s : Nat} {v : Value} {r c : Int} {n : Nat} {f : Nat → α} (h : RawO ok s U v r c n f) (hU : ULe U U') : RawO ok s U' v r c n f := by
  obtain ⟨a, h1, h2⟩ := h.elt
  exact ⟨h.rows, h.cols, h.num, a, h1, h2.up KeptC.out hU (List.Sublist.refl _)⟩
section
variable {H : Type} {enc : TypeId × Value → H}
end
end Go.Proofs.YtjfkodlddladhaaGreat
