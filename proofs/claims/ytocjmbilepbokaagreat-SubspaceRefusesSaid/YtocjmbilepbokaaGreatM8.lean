/- Texts of this seat's own, merged: each begins with its own remark. -/
import Derived.Test.YtocjmbilepbokaaGreatM7
import Derived.Test.YtocjmbilepbokaaGreatM5
import Derived.Test.YtocjmbilepbokaaGreatM4
/- Walks: powers of integers. -/
namespace Go.Proofs.YtocjmbilepbokaaGreat
open Go.Hp
variable {G : World} {U : UH} {M : MH}

end Go.Proofs.YtocjmbilepbokaaGreat

/- Walks of the reference of layer 1: powers. -/
namespace Go.Proofs.YtocjmbilepbokaaGreat
open Go.Hp
variable {G : World} {U : UH} {M : MH}

end Go.Proofs.YtocjmbilepbokaaGreat

/- Walks: powers modulo an integer. -/
namespace Go.Proofs.YtocjmbilepbokaaGreat
open Go.Hp
variable {G : World} {U : UH} {M : MH}

end Go.Proofs.YtocjmbilepbokaaGreat

/- Walks of the reference of layer 1: powers modulo an integer. -/
namespace Go.Proofs.YtocjmbilepbokaaGreat
open Go.Hp
variable {G : World} {U : UH} {M : MH}

end Go.Proofs.YtocjmbilepbokaaGreat
