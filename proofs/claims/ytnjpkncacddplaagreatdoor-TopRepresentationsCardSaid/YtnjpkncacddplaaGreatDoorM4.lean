/- Texts of this seat's own, merged: each begins with its own remark. -/
import Derived.Test.YtnjpkncacddplaaGreatDoorM3
import Derived.Test.YtnjpkncacddplaaGreatDoorM2
import Derived.Test.YtnjpkncacddplaaGreatDoorM1
/- Walks of bigint, 10: lengths in binary digits, copies. -/
namespace Go.Proofs.YtnjpkncacddplaaGreatDoor
open Go.Hp
variable {G:World} {U:UH} {M:MH}
end Go.Proofs.YtnjpkncacddplaaGreatDoor

/- Walks of bigint, 11: quotient and remainder of digits. -/
namespace Go.Hp
end Go.Hp
namespace Go.Proofs.YtnjpkncacddplaaGreatDoor
open Go.Hp
variable {G:World} {U:UH} {M:MH}
end Go.Proofs.YtnjpkncacddplaaGreatDoor

/- Walks of bigint, 12: the exported functions on integers. -/
namespace Go.Proofs.YtnjpkncacddplaaGreatDoor
open Go.Hp
variable {G:World} {U:UH} {M:MH}
end Go.Proofs.YtnjpkncacddplaaGreatDoor

/- Walks of bigint, 13: sums, differences, products of integers. -/
namespace Go.Proofs.YtnjpkncacddplaaGreatDoor
open Go.Hp
variable {G:World} {U:UH} {M:MH}
end Go.Proofs.YtnjpkncacddplaaGreatDoor

/- Walks of bigint, 14: differences, products, comparison of integers. -/
namespace Go.Proofs.YtnjpkncacddplaaGreatDoor
open Go.Hp
variable {G:World} {U:UH} {M:MH}
end Go.Proofs.YtnjpkncacddplaaGreatDoor

/- Walks of bigint, 15: division of integers. -/
namespace Go.Hp
end Go.Hp
namespace Go.Proofs.YtnjpkncacddplaaGreatDoor
open Go.Hp
variable {G:World} {U:UH} {M:MH}
end Go.Proofs.YtnjpkncacddplaaGreatDoor

/- Walks of bigint, 17: greatest common divisors. -/
namespace Go.Proofs.YtnjpkncacddplaaGreatDoor
open Go.Hp
variable {G:World} {U:UH} {M:MH}
end Go.Proofs.YtnjpkncacddplaaGreatDoor

/- Walks of bigint, 18: exact quotients. -/
namespace Go.Proofs.YtnjpkncacddplaaGreatDoor
open Go.Hp
variable {G:World} {U:UH} {M:MH}
abbrev zeroIV:IV:=⟨false,none,0,0⟩
end Go.Proofs.YtnjpkncacddplaaGreatDoor

/- Walks of bigint, 16: bits, small integers. -/
namespace Go.Hp
end Go.Hp
namespace Go.Proofs.YtnjpkncacddplaaGreatDoor
open Go.Hp
variable {G:World} {U:UH} {M:MH}
end Go.Proofs.YtnjpkncacddplaaGreatDoor
