/- Walks of the reference of layer 9: Inverse. -/
import Derived.Test.YtcfgogamamdipaaB110
namespace Go.Proofs.Ytcfgogamamdipaa
open Go.Hp
variable {G : World} {U U' : UH} {M M' : MH}

end Go.Proofs.Ytcfgogamamdipaa
