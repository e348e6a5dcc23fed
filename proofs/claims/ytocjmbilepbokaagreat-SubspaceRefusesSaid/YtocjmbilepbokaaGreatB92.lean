/- Walks of the reference of layer 9: determinants by the first row. -/
import Derived.Test.YtocjmbilepbokaaGreatM21
namespace Go.Proofs.YtocjmbilepbokaaGreat
open Go.Hp
variable {G : World} {U : UH} {M : MH}

/-- How long a determinant may be. -/
def dsz (k : Nat) : Nat → Nat
  | 0 => 1
  | n + 1 => 1 + (n + 1) * (k + dsz k n + 1)
end Go.Proofs.YtocjmbilepbokaaGreat
