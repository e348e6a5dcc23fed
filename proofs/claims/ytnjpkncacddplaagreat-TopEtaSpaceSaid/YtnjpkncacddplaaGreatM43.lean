/- Texts of this seat's own, merged: each begins with its own remark. -/
import Derived.Test.YtnjpkncacddplaaGreatM9
import Derived.Test.YtnjpkncacddplaaGreatM14
import Derived.Test.YtnjpkncacddplaaGreatM18
import Derived.Test.YtnjpkncacddplaaGreatM10
import Derived.Test.YtnjpkncacddplaaGreatVz
import Derived.Test.YtnjpkncacddplaaGreatM48
import Derived.Test.YtnjpkncacddplaaGreatM7
import Derived.Test.YtnjpkncacddplaaGreatM8
import Derived.Test.YtnjpkncacddplaaGreatM4
import Derived.Test.YtnjpkncacddplaaGreatM2
import Derived.Test.YtnjpkncacddplaaGreatM41
/- Walks of modmatrix: rational reconstruction. -/
namespace Go.Proofs.YtnjpkncacddplaaGreat
open Go.Hp
variable {G:World} {U U':UH} {M:MH}
theorem Qfa {x y:IV} {z u:Int} (hx:x.rep U M z) (hn:x.n≤1099511627776) (hy:y.rep U M u) (hn':y.n≤1099511627776) (hu:u≠0) :
  Ct Tryz.prog 34 [x.v,y.v] G U M fun v U' D=>∃ q r:IV,v = .tuple #[q.v,r.v,.int .i64 0]∧q.nrm U' [] (z / u)∧r.nrm U' [] (z % u)∧D=[] :=
 (VZ hx hn hy hn').settle.mono fun _ _ _ _ ⟨h1,_,_,⟨q,r,e,Dq,Dr,h2,h3,h4,_⟩,_,_,hs⟩=>by
  subst h3
  obtain ⟨rfl,h5,h6⟩:=h4 hu
  exact ⟨q,r,h2,h5.sett hs.right,h6.sett hs.left,h1⟩
end Go.Proofs.YtnjpkncacddplaaGreat

/- Walks of the reference of layer 13: rational reconstruction. -/
namespace Go.Proofs.YtnjpkncacddplaaGreat
open Go.Hp
variable {G:World} {U U':UH} {M:MH}
end Go.Proofs.YtnjpkncacddplaaGreat

/- Walks of the reference of layer 13: the search for a fraction. -/
namespace Go.Proofs.YtnjpkncacddplaaGreat
open Go.Hp
variable {G:World} {U U':UH} {M:MH}
def cen (w m:Int):Int:=if w % m > m / 2 then w % m - m else w % m
end Go.Proofs.YtnjpkncacddplaaGreat
