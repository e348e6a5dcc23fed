/- Texts of this seat's own, merged: each begins with its own remark. -/
import Derived.Test.YthnnlgjlhnmhnaaGreatM23
import Derived.Test.YthnnlgjlhnmhnaaGreatM36
import Derived.Test.YthnnlgjlhnmhnaaGreatM21
import Derived.Test.YthnnlgjlhnmhnaaGreatM34
/- Walks of matrix: row times matrix, products. -/
namespace Go.Proofs.YthnnlgjlhnmhnaaGreat
open Go.Hp
variable {G:World} {U U':UH} {M M':MH}
end Go.Proofs.YthnnlgjlhnmhnaaGreat

/- Walks of the reference of layer 9: kernels. -/
namespace Go.Proofs.YthnnlgjlhnmhnaaGreat
open Go.Hp
variable {G:World} {U U':UH} {M M':MH}
theorem Gs.cong2 {R:MH→Option Addr→Nat→Nat→List Value→Prop} {c:Nat} {svs:List Value} {F:List MH} {A B:Nat→Nat→Rat} (h:Gs R c U svs F A) (hA:∀ k,A k=B k):Gs R c U svs F B:=by
 rwa [show A=B from funext hA] at h
end Go.Proofs.YthnnlgjlhnmhnaaGreat

/- Walks of the reference of layer 9: Solve. -/
namespace Go.Proofs.YthnnlgjlhnmhnaaGreat
open Go.Hp
variable {G:World} {U U':UH} {M M':MH}
end Go.Proofs.YthnnlgjlhnmhnaaGreat

/- Walks of the reference of layer 9: Inverse. -/
namespace Go.Proofs.YthnnlgjlhnmhnaaGreat
open Go.Hp
variable {G:World} {U U':UH} {M M':MH}
end Go.Proofs.YthnnlgjlhnmhnaaGreat
