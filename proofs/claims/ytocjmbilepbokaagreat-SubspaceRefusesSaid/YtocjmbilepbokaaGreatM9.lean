/- Texts of this seat's own, merged: each begins with its own remark. -/
import Derived.Test.YtocjmbilepbokaaGreatM8
import Derived.Test.YtocjmbilepbokaaGreatM4
import Derived.Test.YtocjmbilepbokaaGreatB38
import Derived.Test.YtocjmbilepbokaaGreatM1
/- Walks: square roots. -/
namespace Go.Proofs.YtocjmbilepbokaaGreat
open Go.Hp
variable {G : World} {U : UH} {M : MH}

end Go.Proofs.YtocjmbilepbokaaGreat

/- Walks of the reference of layer 1: square roots. -/
namespace Go.Proofs.YtocjmbilepbokaaGreat
open Go.Hp
variable {G : World} {U : UH} {M : MH}

end Go.Proofs.YtocjmbilepbokaaGreat
