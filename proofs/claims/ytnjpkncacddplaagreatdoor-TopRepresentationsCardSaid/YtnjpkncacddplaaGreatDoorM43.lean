/- Texts of this seat's own, merged: each begins with its own remark. -/
import Derived.Test.YtnjpkncacddplaaGreatDoorM7
import Derived.Test.YtnjpkncacddplaaGreatDoorM4
import Derived.Test.YtnjpkncacddplaaGreatDoorM2
import Derived.Test.YtnjpkncacddplaaGreatDoorB38
import Derived.Test.YtnjpkncacddplaaGreatDoorM1
import Derived.Test.YtnjpkncacddplaaGreatDoorM14
import Derived.Test.YtnjpkncacddplaaGreatDoorM18
import Derived.Test.YtnjpkncacddplaaGreatDoorM10
import Derived.Test.YtnjpkncacddplaaGreatDoorVz
import Derived.Test.YtnjpkncacddplaaGreatDoorM48
import Derived.Test.YtnjpkncacddplaaGreatDoorM41
/- Walks of modmatrix: rational reconstruction. -/
namespace Go.Proofs.YtnjpkncacddplaaGreatDoor
open Go.Hp
variable {G:World} {U U':UH} {M:MH}
end Go.Proofs.YtnjpkncacddplaaGreatDoor

/- Walks of the reference of layer 13: rational reconstruction. -/
namespace Go.Proofs.YtnjpkncacddplaaGreatDoor
open Go.Hp
variable {G:World} {U U':UH} {M:MH}
end Go.Proofs.YtnjpkncacddplaaGreatDoor

/- Walks of the reference of layer 13: the search for a fraction. -/
namespace Go.Proofs.YtnjpkncacddplaaGreatDoor
open Go.Hp
variable {G:World} {U U':UH} {M:MH}
def cen (w m:Int):Int:=if w % m > m / 2 then w % m - m else w % m
end Go.Proofs.YtnjpkncacddplaaGreatDoor
