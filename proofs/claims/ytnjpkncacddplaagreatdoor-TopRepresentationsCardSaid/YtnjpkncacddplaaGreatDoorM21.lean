/- Texts of this seat's own, merged: each begins with its own remark. -/
import Derived.Test.YtnjpkncacddplaaGreatDoorM19
import Derived.Test.YtnjpkncacddplaaGreatDoorM18
import Derived.Test.YtnjpkncacddplaaGreatDoorM10
import Derived.Test.YtnjpkncacddplaaGreatDoorM7
import Derived.Test.YtnjpkncacddplaaGreatDoorM4
import Derived.Test.YtnjpkncacddplaaGreatDoorM2
import Derived.Test.YtnjpkncacddplaaGreatDoorM14
/- Walks of the reference of layer 9: elimination. -/
namespace Go.Proofs.YtnjpkncacddplaaGreatDoor
open Go.Hp
variable {G:World} {U:UH} {M:MH}
def Vi (_:UH) (v:Value) (k:Nat):Prop:=v = .int .i64 (k:Int)
end Go.Proofs.YtnjpkncacddplaaGreatDoor

/- Walks of the reference of layer 9: echelon forms, ranks, transposes, traces, sums. -/
namespace Go.Proofs.YtnjpkncacddplaaGreatDoor
open Go.Hp
variable {G:World} {U:UH} {M:MH}
structure EchOf (m n r:Nat) (A R:Nat→Nat→Rat) (p:Nat→Nat):Prop where
 ech:La.Ech r n R p
 same:La.Same r m n R A
 le:r≤m
end Go.Proofs.YtnjpkncacddplaaGreatDoor
