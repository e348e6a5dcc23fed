/- Texts of this seat's own, merged: each begins with its own remark. -/
import Derived.Test.YthnnlgjlhnmhnaaGreatM18
import Derived.Test.YthnnlgjlhnmhnaaGreatM14
/- Simplest fractions: the plain law. -/
namespace Go.Proofs.YthnnlgjlhnmhnaaGreat
open Go.Hp
end Go.Proofs.YthnnlgjlhnmhnaaGreat

/- Walks of rational: simplest fractions. -/
namespace Go.Proofs.YthnnlgjlhnmhnaaGreat
open Go.Hp
variable {G:World} {U:UH} {M:MH}
theorem vE:zeroQV.rep U M 0:=⟨0,0,⟨[],Dig.nil,rfl⟩,⟨[],Dig.nil,rfl⟩,by simp⟩
theorem Jx {z:Int} {k:Nat} (h:Sz z k) (hk:1≤k):Szq (z:Rat) k:=⟨h,QfH hk⟩
end Go.Proofs.YthnnlgjlhnmhnaaGreat

/- Walks of rational: simplest fractions, second part. -/
namespace Go.Proofs.YthnnlgjlhnmhnaaGreat
open Go.Hp
variable {G:World} {U:UH} {M:MH}
end Go.Proofs.YthnnlgjlhnmhnaaGreat
