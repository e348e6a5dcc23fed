/- Texts of this seat's own, merged: each begins with its own remark. -/
import Derived.Test.YthnnlgjlhnmhnaaGreatM21
import Derived.Test.YthnnlgjlhnmhnaaGreatM35
import Derived.Test.YthnnlgjlhnmhnaaGreatM34
import Derived.Test.YthnnlgjlhnmhnaaGreatM36
import Derived.Test.YthnnlgjlhnmhnaaGreatM37
import Derived.Test.YthnnlgjlhnmhnaaGreatM19
/- The law of layer 9 on kernels. -/
namespace Go.Proofs.YthnnlgjlhnmhnaaGreat
open Go.Hp
variable {G:World} {U U':UH} {M M':MH}
theorem Qeq {n:Nat} (hn:n≤1000000000) :
  Ct Tryz.prog 33 [.int .i64 (n:Int)] G U M fun v U' D=>Lo Vq TR 4 n U' D v (fun _=>(0:Rat))∧ULe U U':=by
 refine Qh Tryz.func33 rfl rfl rfl rfl ?_
 repeat (first|refine Qc ?_|refine Qa fun _=>?_|refine w_al fun _=>?_)
 refine Ql (fun m E U' M'=>∃ (i:Nat) (p:Option Addr) (c:Nat) (vs:List Value) (D:MH),i≤n∧RowO TR 4 D p i c vs∧El Vq U' vs (fun _=>(0:Rat))∧E=[(3,.slice p i c),(4,.int .i64 (i:Int)),(0,.int .i64 (n:Int))]∧ULe U U'∧M'=D++M∧m=n - i) (n0:=n)
  (E0:=[(3,.slice none 0 0),(4,.int .i64 ((0:Nat):Int)),(0,.int .i64 (n:Int))]) ⟨rfl,rfl,rfl,trivial⟩ ⟨0,none,0,[],[],by omega,RowO.nil,El.nil,rfl,uc,rfl,rfl⟩ ?_
 rintro m E U' M' ⟨i,p,c,vs,D,hi,hrow,hel,rfl,hU,rfl,rfl⟩
 try refine Qb ?_
 refine Qi rfl (fun h=>?_) (fun h=>?_)
 ·try refine Qb ?_
  refine Qd rfl rfl rfl rfl rfl rfl (fun _=>(vO (z:=0) (by decide) (by decide)).settle) ?_
  rintro v Uh1 D hU ⟨rfl,_,_,⟨xh1,rfl,h1,-⟩,-,-,hs⟩
  replace h1:=h1.sett hs
  clear hs
  repeat (first|refine Qc ?_|refine Qa fun _=>?_|refine w_al fun _=>?_)
  refine Ye hrow (List.Perm.refl _) (fun bhr2 phr2 chr2 Dhr2 hr2=>?_)
  repeat (first|refine Qc ?_|refine Qa fun _=>?_|refine w_al fun _=>?_)
  exact Qg (E':=[(3,.slice phr2 (i+1) chr2),(4,.int .i64 ((i:Int)+1)),(0,.int .i64 (n:Int))]) (m:=n - (i+1)) ⟨rfl,rfl,rfl,trivial⟩ (by omega)
   ⟨i+1,phr2,chr2,_,Dhr2,by omega,hr2,JV hrow.len.1 (hel.up QF uc) ⟨xh1,rfl,h1⟩,rfl,uc,rfl,rfl⟩
 ·try refine Qb ?_
  have e:i=n:=by omega
  subst e
  exact Qe D sym rfl (.cons (.tmp rfl) .nil) uc sb (.inl rfl) ⟨⟨p,c,vs,rfl,hrow,hel⟩,uc⟩
end Go.Proofs.YthnnlgjlhnmhnaaGreat

/- The law of layer 9 on inverses. -/
namespace Go.Proofs.YthnnlgjlhnmhnaaGreat
open Go.Hp
variable {G:World} {U U':UH} {M M':MH}
theorem QbQ {n b:Nat} {vm:Value} {A:Nat→Nat→Rat} (hm:Vm (Wq b) n n U vm A) (hb1:1≤b) (hg1:1+n*La.gro b n≤1000000000) (hgW:La.gro b n≤1000000000) (hn1:n≤1000) :
  Ct Tryz.prog 59 [vm] G U M fun v U' D=>∃ (r:Nat) (R:Nat→Nat→Rat) (p:Nat→Nat) (vX:Value) (e:Int),v = .tuple #[vX,.int .i64 e]∧EchOf n n r A R p∧(r < n→e=11∧vX = .agg #[.int .i64 0,.int .i64 0,.slice none 0 0]) ∧
   (r=n→e=0∧∃ X:Nat→Nat→Rat,Vm Vq n n U' vX X∧(∀ i j,i < n→j < n→La.mm n X A i j=La.idm i j)∧∀ i j,i < n→j < n→Szq (X i j) (La.gro b n))∧D=[] :=
 (Qbv hm hb1 hg1 hgW hn1).settle.mono fun _ _ _ _ ⟨h1,_,_,⟨r,R,p,vX,e,h2,h3,h4,h5,_⟩,_,h7,h8⟩ =>
  ⟨r,R,p,vX,e,h2,h3,fun hr=>⟨(h4 hr).1,(h4 hr).2.1⟩,fun hr=>by
   obtain ⟨h9,X,⟨a,h10,h11⟩,h12⟩:=h5 hr
   exact ⟨h9,X,⟨a,h10,h11.sett QF h7 h8⟩,h12⟩,h1⟩
end Go.Proofs.YthnnlgjlhnmhnaaGreat

/- The law of layer 9 on solutions. -/
namespace Go.Proofs.YthnnlgjlhnmhnaaGreat
open Go.Hp
variable {G:World} {U U':UH} {M M':MH}
end Go.Proofs.YthnnlgjlhnmhnaaGreat

/- Walks of matrix: Identity, Power. -/
namespace Go.Proofs.YthnnlgjlhnmhnaaGreat
open Go.Hp
variable {G:World} {U U':UH} {M M':MH}
end Go.Proofs.YthnnlgjlhnmhnaaGreat

/- The law of layer 9 on powers. -/
namespace Go.Proofs.YthnnlgjlhnmhnaaGreat
open Go.Hp
variable {G:World} {U U':UH} {M M':MH}
end Go.Proofs.YthnnlgjlhnmhnaaGreat
