/- Texts of this seat's own, merged: each begins with its own remark. -/
import Derived.Test.YtnjpkncacddplaaGreatDoorB92
import Derived.Test.YtnjpkncacddplaaGreatDoorM35
import Derived.Test.YtnjpkncacddplaaGreatDoorM34
/- The law of layer 9 on determinants. -/
namespace Go.Proofs.YtnjpkncacddplaaGreatDoor
open Go.Hp
variable {G:World} {U U':UH} {M M':MH}
end Go.Proofs.YtnjpkncacddplaaGreatDoor

/- The law of layer 9 on echelon forms. -/
namespace Go.Proofs.YtnjpkncacddplaaGreatDoor
open Go.Hp
variable {G:World} {U U':UH} {M M':MH}
theorem EchOf.unique {m n r r':Nat} {A R R':Nat→Nat→Rat} {p p':Nat→Nat} (h:EchOf m n r A R p) (h':EchOf m n r' A R' p'):r=r'∧(∀ i,i < r→p i=p' i)∧∀ i j,i < r→j < n→R i j=R' i j :=
 h.ech.unique h'.ech (h.same.trans h'.same.symm)
end Go.Proofs.YtnjpkncacddplaaGreatDoor
