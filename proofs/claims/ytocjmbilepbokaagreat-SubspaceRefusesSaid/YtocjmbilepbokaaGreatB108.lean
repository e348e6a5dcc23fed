/- Walks of matrix: Solve. -/
import Derived.Test.YtocjmbilepbokaaGreatM36
import Derived.Test.YtocjmbilepbokaaGreatM34
namespace Go.Proofs.YtocjmbilepbokaaGreat
open Go.Hp
variable {G : World} {U U' : UH} {M M' : MH}

end Go.Proofs.YtocjmbilepbokaaGreat
