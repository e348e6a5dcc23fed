/- Texts of this seat's own, merged: each begins with its own remark. -/
import Derived.Test.YtnjpkncacddplaaGreatDoorB97
import Derived.Test.YtnjpkncacddplaaGreatDoorM23
import Derived.Test.YtnjpkncacddplaaGreatDoorM34
/- Walks of matrix: grids of zeros, unit grids, grids side by side. -/
namespace Go.Proofs.YtnjpkncacddplaaGreatDoor
open Go.Hp
variable {G:World} {U U':UH} {M M':MH}
def side (n:Nat) (A B:Nat→Nat→Rat):Nat→Nat→Rat:=fun i j=>if j < n then A i j else B i (j - n)
end Go.Proofs.YtnjpkncacddplaaGreatDoor

/- Walks of matrix: kernels. -/
namespace Go.Proofs.YtnjpkncacddplaaGreatDoor
open Go.Hp
variable {G:World} {U U':UH} {M M':MH}
end Go.Proofs.YtnjpkncacddplaaGreatDoor

/- Walks of matrix: Kernel and Inverse. -/
namespace Go.Proofs.YtnjpkncacddplaaGreatDoor
open Go.Hp
variable {G:World} {U U':UH} {M M':MH}
end Go.Proofs.YtnjpkncacddplaaGreatDoor
