/- Walks of the reference of layer 9: Solve. -/
import Derived.Test.YtcfgogamamdipaaB109
namespace Go.Proofs.Ytcfgogamamdipaa
open Go.Hp
variable {G : World} {U U' : UH} {M M' : MH}

theorem szq_intm : Szq (((-1 : Int) : Rat)) 1 := ⟨by unfold Sz; decide, by unfold Sz; decide⟩

end Go.Proofs.Ytcfgogamamdipaa
