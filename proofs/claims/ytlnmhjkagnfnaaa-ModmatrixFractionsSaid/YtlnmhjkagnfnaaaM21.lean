/- Texts of this seat's own, merged: each begins with its own remark. -/
import Derived.Test.YtlnmhjkagnfnaaaM19
import Derived.Test.YtlnmhjkagnfnaaaM15
/- Walks of the reference of layer 9: elimination. -/
namespace Go.Proofs.Ytlnmhjkagnfnaaa
open Go.Hp
variable {G : World} {U : UH} {M : MH}

/-- A number of type int. -/
def Vi (_ : UH) (v : Value) (k : Nat) : Prop := v = .int .i64 (k : Int)
theorem kept_i : Kept Vi := fun _ _ _ _ _ h => h

end Go.Proofs.Ytlnmhjkagnfnaaa

/- Walks of the reference of layer 9: echelon forms, ranks, transposes, traces, sums. -/
namespace Go.Proofs.Ytlnmhjkagnfnaaa
open Go.Hp
variable {G : World} {U : UH} {M : MH}

/-- The echelon form of A: r rows, R; their pivots p. -/
structure EchOf (m n r : Nat) (A R : Nat → Nat → Rat) (p : Nat → Nat) : Prop where
  ech : La.Ech r n R p
  same : La.Same r m n R A
  le : r ≤ m

end Go.Proofs.Ytlnmhjkagnfnaaa
