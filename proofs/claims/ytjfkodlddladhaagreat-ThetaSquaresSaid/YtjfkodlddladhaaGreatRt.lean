/- From a law's contract to its row: even forms, binary forms, lists of machine integers as arguments. -/
import Derived.Test.YtjfkodlddladhaaGreatRf
namespace Go.Proofs.YtjfkodlddladhaaGreat
open Go.Hp Go.ChangeShapes Go.WideShapes Go.ChangeAt Go.RowKit Go.Joins
structure RawG (U : UH) (v : Value) (r : Int) (n : Nat) (f : Nat → Int) : Prop where
  rank : -9223372036854775808 ≤ r ∧ r ≤ 9223372036854775807
  num : n ≤ 9223372036854775807
  elt : ∃ a, v = .agg #[.int .i64 r, a] ∧ Ls Vz 1 n U [] a f
structure RawQ (v : Value) (a b c : Int) : Prop where
  ra : -9223372036854775808 ≤ a ∧ a ≤ 9223372036854775807
  rb : -9223372036854775808 ≤ b ∧ b ≤ 9223372036854775807
  rc : -9223372036854775808 ≤ c ∧ c ≤ 9223372036854775807
  elt : v = .agg #[.int .i64 a, .int .i64 b, .int .i64 c]
section
variable {H : Type} {enc : TypeId × Value → H}
end
end Go.Proofs.YtjfkodlddladhaaGreat
