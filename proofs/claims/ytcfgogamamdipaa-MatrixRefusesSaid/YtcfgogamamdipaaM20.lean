/- Texts of this seat's own, merged: each begins with its own remark. -/
import Derived.Test.YtcfgogamamdipaaM19
import Derived.Test.YtcfgogamamdipaaM15
/- Walks of the reference of layer 9: rows of zeros, unit rows, sums of rows. -/
namespace Go.Proofs.Ytcfgogamamdipaa
open Go.Hp
variable {G : World} {U : UH} {M : MH}

end Go.Proofs.Ytcfgogamamdipaa

/- Walks of the reference of layer 9: elements, rows and matrices. -/
namespace Go.Proofs.Ytcfgogamamdipaa
open Go.Hp
variable {G : World} {U : UH} {M : MH}

end Go.Proofs.Ytcfgogamamdipaa

/- Walks of the reference of layer 9: matrices of rows, products, sums, transposes. -/
namespace Go.Proofs.Ytcfgogamamdipaa
open Go.Hp
variable {G : World} {U : UH} {M : MH}

end Go.Proofs.Ytcfgogamamdipaa

/- Walks of the reference of layer 9: products, sums, transposes, traces. -/
namespace Go.Proofs.Ytcfgogamamdipaa
open Go.Hp
variable {G : World} {U : UH} {M : MH}

theorem sm_snoc (n : Nat) (f : Nat → Rat) : La.sm n f + f n = La.sm (n + 1) f := rfl

end Go.Proofs.Ytcfgogamamdipaa
