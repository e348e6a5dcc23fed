/- Laws of layer 10: maps on invariant subspaces. -/
import Derived.Test.YtocjmbilepbokaaGreatB148
import Derived.Test.YtocjmbilepbokaaGreatM27
namespace Go.Proofs.YtocjmbilepbokaaGreat
open Go.Hp
variable {G : World} {U U' : UH} {M M' : MH}

end Go.Proofs.YtocjmbilepbokaaGreat
