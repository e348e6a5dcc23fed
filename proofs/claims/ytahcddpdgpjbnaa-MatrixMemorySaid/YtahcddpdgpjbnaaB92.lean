/- Walks of the reference of layer 9: determinants by the first row. -/
import Derived.Test.YtahcddpdgpjbnaaM21
namespace Go.Proofs.Ytahcddpdgpjbnaa
open Go.Hp
variable {G:World} {U:UH} {M:MH}
def dsz (k:Nat):Nat→Nat
 | 0=>1
 | n+1=>1+(n+1)*(k+dsz k n+1)
end Go.Proofs.Ytahcddpdgpjbnaa
