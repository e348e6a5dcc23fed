/- Texts of this seat's own, merged: each begins with its own remark. -/
import Derived.Test.YtnjpkncacddplaaGreatDoorM97
import Derived.Test.YtnjpkncacddplaaGreatDoorM36
import Derived.Test.YtnjpkncacddplaaGreatDoorM37
import Derived.Test.YtnjpkncacddplaaGreatDoorLi
import Derived.Test.YtnjpkncacddplaaGreatDoorM34
/- The law of layer 9 on kernels. -/
namespace Go.Proofs.YtnjpkncacddplaaGreatDoor
open Go.Hp
variable {G:World} {U U':UH} {M M':MH}
end Go.Proofs.YtnjpkncacddplaaGreatDoor

/- The law of layer 9 on inverses. -/
namespace Go.Proofs.YtnjpkncacddplaaGreatDoor
open Go.Hp
variable {G:World} {U U':UH} {M M':MH}
theorem Qdm {n b:Nat} {vm:Value} {A:Nat→Nat→Rat} (hm:Vm (Wq b) n n U vm A) (hb1:1≤b) (hg1:1+n*La.gro b n≤1000000000) (hgW:La.gro b n≤1000000000) (hn1:n≤1000) :
  Ct Tryz.prog 226 [vm] G U M fun v U' D=>∃ (r:Nat) (R:Nat→Nat→Rat) (p:Nat→Nat) (vX:Value) (e:Int),v = .tuple #[vX,.int .i64 e]∧EchOf n n r A R p∧(r < n→e=11∧vX = .agg #[.int .i64 0,.int .i64 0,.slice none 0 0]) ∧
   (r=n→e=0∧∃ X:Nat→Nat→Rat,Vm Vq n n U' vX X∧(∀ i j,i < n→j < n→La.mm n X A i j=La.idm i j)∧∀ i j,i < n→j < n→Szq (X i j) (La.gro b n))∧D=[] :=
 (QdQ hm hb1 hg1 hgW hn1).settle.mono fun _ _ _ _ ⟨h1,_,_,⟨r,R,p,vX,e,h2,h3,h4,h5,_⟩,_,h7,h8⟩ =>
  ⟨r,R,p,vX,e,h2,h3,fun hr=>⟨(h4 hr).1,(h4 hr).2.1⟩,fun hr=>by
   obtain ⟨h9,X,⟨a,h10,h11⟩,h12⟩:=h5 hr
   exact ⟨h9,X,⟨a,h10,h11.sett QI h7 h8⟩,h12⟩,h1⟩
end Go.Proofs.YtnjpkncacddplaaGreatDoor

/- The law of layer 9 on solutions. -/
namespace Go.Proofs.YtnjpkncacddplaaGreatDoor
open Go.Hp
variable {G:World} {U U':UH} {M M':MH}
def Rats (U:UH) (v:Value) (n:Nat) (f:Nat→Rat):Prop:=n≤9223372036854775807∧Ls Xq 4 n U [] v f
end Go.Proofs.YtnjpkncacddplaaGreatDoor

/- Walks of matrix: Identity, Power. -/
namespace Go.Proofs.YtnjpkncacddplaaGreatDoor
open Go.Hp
variable {G:World} {U U':UH} {M M':MH}
def mpow (n:Nat) (A:Nat→Nat→Rat):Nat→Nat→Nat→Rat
 | 0=>La.idm
 | k+1=>La.mm n (mpow n A k) A
end Go.Proofs.YtnjpkncacddplaaGreatDoor

/- The law of layer 9 on powers. -/
namespace Go.Proofs.YtnjpkncacddplaaGreatDoor
open Go.Hp
variable {G:World} {U U':UH} {M M':MH}
def psz (n b:Nat):Nat→Nat
 | 0=>1
 | k+1=>1+n*(psz n b k+b+1)
end Go.Proofs.YtnjpkncacddplaaGreatDoor
