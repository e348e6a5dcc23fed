/- Texts of this seat's own, merged: each begins with its own remark. -/
import Derived.Test.YtjfkodlddladhaaGreatM9
import Derived.Test.YtjfkodlddladhaaGreatM14
import Derived.Test.YtjfkodlddladhaaGreatM18
import Derived.Test.YtjfkodlddladhaaGreatM10
import Derived.Test.YtjfkodlddladhaaGreatVz
import Derived.Test.YtjfkodlddladhaaGreatM48
import Derived.Test.YtjfkodlddladhaaGreatM7
import Derived.Test.YtjfkodlddladhaaGreatM15
import Derived.Test.YtjfkodlddladhaaGreatM41
/- Walks of modmatrix: rational reconstruction. -/
namespace Go.Proofs.YtjfkodlddladhaaGreat
open Go.Hp
variable {G : World} {U U' : UH} {M : MH}
theorem Qdb {x y : IV} {z u : Int} (hx : x.rep U M z) (hn : x.n ≤ 1099511627776) (hy : y.rep U M u) (hn' : y.n ≤ 1099511627776) (hu : u ≠ 0) :
  Ct Tryz.prog 101 [x.v, y.v] G U M fun v U' D => ∃ q r : IV, v = .tuple #[q.v, r.v, .int .i64 0] ∧ q.nrm U' [] (z / u) ∧ r.nrm U' [] (z % u) ∧ D = [] :=
 (Ve hx hn hy hn').settle.mono fun _ _ _ _ ⟨h1, _, _, ⟨q, r, e, Dq, Dr, h2, h3, h4, _⟩, _, _, hs⟩ => by
  subst h3
  obtain ⟨rfl, h5, h6⟩ := h4 hu
  exact ⟨q, r, h2, h5.sett hs.right, h6.sett hs.left, h1⟩
end Go.Proofs.YtjfkodlddladhaaGreat

/- Walks of the reference of layer 13: rational reconstruction. -/
namespace Go.Proofs.YtjfkodlddladhaaGreat
open Go.Hp
variable {G : World} {U U' : UH} {M : MH}
end Go.Proofs.YtjfkodlddladhaaGreat

/- Walks of the reference of layer 13: the search for a fraction. -/
namespace Go.Proofs.YtjfkodlddladhaaGreat
open Go.Hp
variable {G : World} {U U' : UH} {M : MH}
def cen (w m : Int) : Int := if w % m > m / 2 then w % m - m else w % m
end Go.Proofs.YtjfkodlddladhaaGreat
