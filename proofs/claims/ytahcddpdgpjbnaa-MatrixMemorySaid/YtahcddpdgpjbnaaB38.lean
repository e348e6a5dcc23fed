/- The law on division. -/
import Derived.Test.YtahcddpdgpjbnaaM6
import Derived.Test.YtahcddpdgpjbnaaM7
namespace Go.Proofs.Ytahcddpdgpjbnaa
open Go.Hp
variable {G:World} {U:UH} {M:MH}
theorem Sz.div {z:Int} {k:Nat} (h:Sz z k) (u:Int):Sz (z / u) k:=Nat.lt_of_le_of_lt (Int.natAbs_ediv_le_natAbs z u) h
end Go.Proofs.Ytahcddpdgpjbnaa
