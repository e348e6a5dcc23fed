/- The law on division. -/
import Derived.Test.YtlnmhjkagnfnaaaM6
import Derived.Test.YtlnmhjkagnfnaaaM7
namespace Go.Proofs.Ytlnmhjkagnfnaaa
open Go.Hp
variable {G : World} {U : UH} {M : MH}

theorem Sz.div {z : Int} {k : Nat} (h : Sz z k) (u : Int) : Sz (z / u) k := Nat.lt_of_le_of_lt (Int.natAbs_ediv_le_natAbs z u) h
theorem Sz.mod {u : Int} {k : Nat} (h : Sz u k) (hu : u ≠ 0) (z : Int) : Sz (z % u) k := by
  unfold Sz at *
  have h1 := Int.emod_nonneg z hu
  have h2 := Int.emod_lt z hu
  omega

end Go.Proofs.Ytlnmhjkagnfnaaa
