/- Texts of this seat's own, merged: each begins with its own remark. -/
import Derived.Test.YtnjpkncacddplaaGreatDoorM97
import Derived.Test.YtnjpkncacddplaaGreatDoorM36
import Derived.Test.YtnjpkncacddplaaGreatDoorM37
import Derived.Test.YtnjpkncacddplaaGreatDoorLi
import Derived.Test.YtnjpkncacddplaaGreatDoorM34
/- The law of layer 9 on kernels. -/
namespace Go.Proofs.YtnjpkncacddplaaGreatDoor
open Go.Hp
variable {G:World} {U U':UH} {M M':MH}
end Go.Proofs.YtnjpkncacddplaaGreatDoor

/- The law of layer 9 on inverses. -/
namespace Go.Proofs.YtnjpkncacddplaaGreatDoor
open Go.Hp
variable {G:World} {U U':UH} {M M':MH}
end Go.Proofs.YtnjpkncacddplaaGreatDoor

/- The law of layer 9 on solutions. -/
namespace Go.Proofs.YtnjpkncacddplaaGreatDoor
open Go.Hp
variable {G:World} {U U':UH} {M M':MH}
def Rats (U:UH) (v:Value) (n:Nat) (f:Nat→Rat):Prop:=n≤9223372036854775807∧Ls Xq 4 n U [] v f
end Go.Proofs.YtnjpkncacddplaaGreatDoor

/- Walks of matrix: Identity, Power. -/
namespace Go.Proofs.YtnjpkncacddplaaGreatDoor
open Go.Hp
variable {G:World} {U U':UH} {M M':MH}
def mpow (n:Nat) (A:Nat→Nat→Rat):Nat→Nat→Nat→Rat
 | 0=>La.idm
 | k+1=>La.mm n (mpow n A k) A
end Go.Proofs.YtnjpkncacddplaaGreatDoor

/- The law of layer 9 on powers. -/
namespace Go.Proofs.YtnjpkncacddplaaGreatDoor
open Go.Hp
variable {G:World} {U U':UH} {M M':MH}
def psz (n b:Nat):Nat→Nat
 | 0=>1
 | k+1=>1+n*(psz n b k+b+1)
end Go.Proofs.YtnjpkncacddplaaGreatDoor
