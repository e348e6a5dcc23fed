/- Texts of this seat's own, merged: each begins with its own remark. -/
import Derived.Test.YtnjpkncacddplaaGreatDoorM18
import Derived.Test.YtnjpkncacddplaaGreatDoorM4
import Derived.Test.YtnjpkncacddplaaGreatDoorM6
/- Walks of rational: is it one; a fraction in lowest terms. -/
namespace Go.Proofs.YtnjpkncacddplaaGreatDoor
open Go.Hp
variable {G:World} {U:UH} {M:MH}
end Go.Proofs.YtnjpkncacddplaaGreatDoor

/- Walks of rational: conversions, signs, sums, products, quotients. -/
namespace Go.Proofs.YtnjpkncacddplaaGreatDoor
open Go.Hp
variable {G:World} {U:UH} {M:MH}
end Go.Proofs.YtnjpkncacddplaaGreatDoor

/- Walks of rational: sums, products, quotients, comparison. -/
namespace Go.Proofs.YtnjpkncacddplaaGreatDoor
open Go.Hp
variable {G:World} {U:UH} {M:MH}
end Go.Proofs.YtnjpkncacddplaaGreatDoor

/- Walks of rational: binary digits, neighboring integers, decimal forms. -/
namespace Go.Proofs.YtnjpkncacddplaaGreatDoor
open Go.Hp
variable {G:World} {U:UH} {M:MH}
def qbl (q:Rat):Nat:=max (blen q.num.natAbs) (blen q.den)
def qfmt (q:Rat):List Nat:=fmt q.num++if q.den=1 then [] else 47::fmt (q.den:Int)
end Go.Proofs.YtnjpkncacddplaaGreatDoor
