/- Texts of this seat's own, merged: each begins with its own remark. -/
import Derived.Test.YthnnlgjlhnmhnaaGreatB97
/- Walks of matrix: determinants. -/
namespace Go.Proofs.YthnnlgjlhnmhnaaGreat
open Go.Hp
variable {G:World} {U U':UH} {M M':MH}
theorem QfT {r c:Nat} (hr:r≤1024) (hc:c≤1024):Vld (r:Int) (c:Int) (r*c):=⟨by omega,by omega,by omega,by omega,by rw [Int.natCast_mul]⟩
end Go.Proofs.YthnnlgjlhnmhnaaGreat

/- Walks of matrix: echelon forms and ranks. -/
namespace Go.Proofs.YthnnlgjlhnmhnaaGreat
open Go.Hp
variable {G:World} {U U':UH} {M M':MH}
theorem _root_.Go.La.Red.echof {m n r:Nat} {A R:La.Mx Rat} {p:Nat→Nat} {d:Rat} (h:La.Red m n n r A R p d):EchOf m n r A R p:=by
 refine ⟨h.ech,La.Same.trans ⟨fun i hi=>La.Sp.row (by have:=h.le; omega),fun i hi=>?_⟩ h.span,h.le⟩
 rcases Nat.lt_or_ge i r with h1 | h1
 ·exact La.Sp.row h1
 ·exact La.Sp.zero.congr (fun _ _ _ _=>rfl) (fun j hj=>(h.zero i j h1 hi hj).symm)
end Go.Proofs.YthnnlgjlhnmhnaaGreat
