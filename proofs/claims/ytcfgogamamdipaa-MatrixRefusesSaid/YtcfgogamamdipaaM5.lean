/- Texts of this seat's own, merged: each begins with its own remark. -/
import Derived.Test.YtcfgogamamdipaaM4
import Derived.Test.YtcfgogamamdipaaM2
/- Walks of the reference of layer 1, first part: normal forms, comparison of results. -/
namespace Go.Proofs.Ytcfgogamamdipaa
open Go.Hp
variable {G : World} {U : UH} {M : MH}

end Go.Proofs.Ytcfgogamamdipaa

/- Walks of the reference of layer 1, second part. -/
namespace Go.Proofs.Ytcfgogamamdipaa
open Go.Hp
variable {G : World} {U : UH} {M : MH}

end Go.Proofs.Ytcfgogamamdipaa

/- Walks of the reference of layer 1, third part. -/
namespace Go.Proofs.Ytcfgogamamdipaa
open Go.Hp
variable {G : World} {U : UH} {M : MH}

end Go.Proofs.Ytcfgogamamdipaa

/- Walks of the reference of layer 1, fourth part: comparison of digits. -/
namespace Go.Proofs.Ytcfgogamamdipaa
open Go.Hp
variable {G : World} {U : UH} {M : MH}

theorem dec_iff {p q : Prop} {_ : Decidable p} {_ : Decidable q} (h : p ↔ q) : dec p = dec q := by
  rw [dec_eq, dec_eq]; exact decide_eq_decide.2 h

end Go.Proofs.Ytcfgogamamdipaa

/- Walks of the reference of layer 1, fifth part: sums of digits. -/
namespace Go.Proofs.Ytcfgogamamdipaa
open Go.Hp
variable {G : World} {U : UH} {M : MH}

end Go.Proofs.Ytcfgogamamdipaa

/- Walks of the reference of layer 1, sixth part: differences of digits. -/
namespace Go.Proofs.Ytcfgogamamdipaa
open Go.Hp
variable {G : World} {U : UH} {M : MH}

end Go.Proofs.Ytcfgogamamdipaa

/- Walks of the reference of layer 1, seventh part: sums of integers. -/
namespace Go.Proofs.Ytcfgogamamdipaa
open Go.Hp
variable {G : World} {U : UH} {M : MH}

theorem perm_up2 {α : Type} {D1 D2 R : List α} {a b c d e : α} : (a :: b :: (D2 ++ (D1 ++ c :: d :: e :: R))).Perm (a :: b :: c :: d :: e :: (D2 ++ (D1 ++ R))) :=
  (((perm3 (D := D1)).append_left D2).trans (perm3 (D := D2))).cons b |>.cons a


end Go.Proofs.Ytcfgogamamdipaa

/- Walks of the reference of layer 1: differences, comparisons. -/
namespace Go.Proofs.Ytcfgogamamdipaa
open Go.Hp
variable {G : World} {U : UH} {M : MH}

end Go.Proofs.Ytcfgogamamdipaa

/- Walks of the reference of layer 1: products. -/
namespace Go.Proofs.Ytcfgogamamdipaa
open Go.Hp
variable {G : World} {U : UH} {M : MH}

end Go.Proofs.Ytcfgogamamdipaa
