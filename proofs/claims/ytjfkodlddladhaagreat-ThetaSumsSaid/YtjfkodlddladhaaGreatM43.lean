/- Texts of this seat's own, merged: each begins with its own remark. -/
import Derived.Test.YtjfkodlddladhaaGreatM9
import Derived.Test.YtjfkodlddladhaaGreatM14
import Derived.Test.YtjfkodlddladhaaGreatM18
import Derived.Test.YtjfkodlddladhaaGreatM10
import Derived.Test.YtjfkodlddladhaaGreatVz
import Derived.Test.YtjfkodlddladhaaGreatM48
import Derived.Test.YtjfkodlddladhaaGreatM7
import Derived.Test.YtjfkodlddladhaaGreatM15
import Derived.Test.YtjfkodlddladhaaGreatM41
/- Walks of modmatrix: rational reconstruction. -/
namespace Go.Proofs.YtjfkodlddladhaaGreat
open Go.Hp
variable {G : World} {U U' : UH} {M : MH}
end Go.Proofs.YtjfkodlddladhaaGreat

/- Walks of the reference of layer 13: rational reconstruction. -/
namespace Go.Proofs.YtjfkodlddladhaaGreat
open Go.Hp
variable {G : World} {U U' : UH} {M : MH}
end Go.Proofs.YtjfkodlddladhaaGreat

/- Walks of the reference of layer 13: the search for a fraction. -/
namespace Go.Proofs.YtjfkodlddladhaaGreat
open Go.Hp
variable {G : World} {U U' : UH} {M : MH}
def cen (w m : Int) : Int := if w % m > m / 2 then w % m - m else w % m
end Go.Proofs.YtjfkodlddladhaaGreat
