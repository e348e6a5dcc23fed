/- Texts of this seat's own, merged: each begins with its own remark. -/
import Derived.Test.YtnjpkncacddplaaGreatDoorM23
import Derived.Test.YtnjpkncacddplaaGreatDoorM36
import Derived.Test.YtnjpkncacddplaaGreatDoorB92
import Derived.Test.YtnjpkncacddplaaGreatDoorM34
/- Walks of matrix: row times matrix, products. -/
namespace Go.Proofs.YtnjpkncacddplaaGreatDoor
open Go.Hp
variable {G:World} {U U':UH} {M M':MH}
end Go.Proofs.YtnjpkncacddplaaGreatDoor

/- Walks of the reference of layer 9: kernels. -/
namespace Go.Proofs.YtnjpkncacddplaaGreatDoor
open Go.Hp
variable {G:World} {U U':UH} {M M':MH}
theorem Gs.tail {R:MH→Option Addr→Nat→Nat→List Value→Prop} {c:Nat} {svs:List Value} {D:MH} {F:List MH} {A:Nat→Nat→Rat} (h:Gs R c U svs (D::F) A):Gs R c U svs.tail F (fun k=>A (k+1)):=by
 refine ⟨by rw [List.length_tail,h.1]; rfl,fun i v E h1 h2=>?_⟩
 rw [List.getElem?_tail] at h1
 exact h.2 (i+1) v E h1 h2
end Go.Proofs.YtnjpkncacddplaaGreatDoor

/- Walks of the reference of layer 9: Solve. -/
namespace Go.Proofs.YtnjpkncacddplaaGreatDoor
open Go.Hp
variable {G:World} {U U':UH} {M M':MH}
end Go.Proofs.YtnjpkncacddplaaGreatDoor

/- Walks of the reference of layer 9: Inverse. -/
namespace Go.Proofs.YtnjpkncacddplaaGreatDoor
open Go.Hp
variable {G:World} {U U':UH} {M M':MH}
end Go.Proofs.YtnjpkncacddplaaGreatDoor
