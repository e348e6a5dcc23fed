/- Texts of this seat's own, merged: each begins with its own remark. -/
import Derived.Test.YtnjpkncacddplaaGreatM23
import Derived.Test.YtnjpkncacddplaaGreatM36
import Derived.Test.YtnjpkncacddplaaGreatM21
import Derived.Test.YtnjpkncacddplaaGreatM34
import Derived.Test.YtnjpkncacddplaaGreatM131
import Derived.Test.YtnjpkncacddplaaGreatM19
/- Walks of matrix: row times matrix, products. -/
namespace Go.Proofs.YtnjpkncacddplaaGreat
open Go.Hp
variable {G:World} {U U':UH} {M M':MH}
end Go.Proofs.YtnjpkncacddplaaGreat

/- Walks of the reference of layer 9: determinants by the first row. -/
namespace Go.Proofs.YtnjpkncacddplaaGreat
open Go.Hp
variable {G:World} {U:UH} {M:MH}
def dsz (k:Nat):Nat→Nat
 | 0=>1
 | n+1=>1+(n+1)*(k+dsz k n+1)
end Go.Proofs.YtnjpkncacddplaaGreat

/- Walks of the reference of layer 9: kernels. -/
namespace Go.Proofs.YtnjpkncacddplaaGreat
open Go.Hp
variable {G:World} {U U':UH} {M M':MH}
theorem Gs.tail {R:MH→Option Addr→Nat→Nat→List Value→Prop} {c:Nat} {svs:List Value} {D:MH} {F:List MH} {A:Nat→Nat→Rat} (h:Gs R c U svs (D::F) A):Gs R c U svs.tail F (fun k=>A (k+1)):=by
 refine ⟨by rw [List.length_tail,h.1]; rfl,fun i v E h1 h2=>?_⟩
 rw [List.getElem?_tail] at h1
 exact h.2 (i+1) v E h1 h2
theorem Gs.cong2 {R:MH→Option Addr→Nat→Nat→List Value→Prop} {c:Nat} {svs:List Value} {F:List MH} {A B:Nat→Nat→Rat} (h:Gs R c U svs F A) (hA:∀ k,A k=B k):Gs R c U svs F B:=by
 rwa [show A=B from funext hA] at h
end Go.Proofs.YtnjpkncacddplaaGreat

/- The law of layer 9 on determinants. -/
namespace Go.Proofs.YtnjpkncacddplaaGreat
open Go.Hp
variable {G:World} {U U':UH} {M M':MH}
theorem Lit.vm {most n:Nat} {v:Value} {r c:Int} {f:Nat→Rat} (h:Lit most U v r c n f) (hV:Vld r c n):∃ R C:Nat,r=(R:Int)∧c=(C:Int)∧R≤most∧C≤most∧Vm (Wq 1) R C U v (fun i j=>f (i*C+j)):=by
 obtain ⟨h1,h2,a,rfl,h3⟩:=h
 obtain ⟨h4,h5⟩:=h2 hV
 obtain ⟨v1,v2,v3,v4,v5⟩:=hV
 obtain ⟨R,rfl⟩:=Int.eq_ofNat_of_zero_le v1
 obtain ⟨C,rfl⟩:=Int.eq_ofNat_of_zero_le v3
 have hn:n=R*C:=by rw [← Int.natCast_mul] at v5; omega
 subst hn
 refine ⟨R,C,rfl,rfl,by omega,by omega,a,rfl,h3.congr fun k hk=>?_⟩
 obtain ⟨-,hC⟩:=jc hk
 show f k=f (k / C*C+k % C)
 rw [Nat.div_add_mod']
end Go.Proofs.YtnjpkncacddplaaGreat

/- The law of layer 9 on echelon forms. -/
namespace Go.Proofs.YtnjpkncacddplaaGreat
open Go.Hp
variable {G:World} {U U':UH} {M M':MH}
theorem EchOf.unique {m n r r':Nat} {A R R':Nat→Nat→Rat} {p p':Nat→Nat} (h:EchOf m n r A R p) (h':EchOf m n r' A R' p'):r=r'∧(∀ i,i < r→p i=p' i)∧∀ i j,i < r→j < n→R i j=R' i j :=
 h.ech.unique h'.ech (h.same.trans h'.same.symm)
end Go.Proofs.YtnjpkncacddplaaGreat

/- Sizes of what is determined: echelon forms, kernels, solutions. No condition. -/
namespace Go.Proofs.YtnjpkncacddplaaGreat
open Go.Hp
theorem jD {m n k:Nat} {A:Nat→Nat→Rat} (hs:∀ i j,i < m→j < n→Szq (A i j) k):∃ (r:Nat) (R:Nat→Nat→Rat) (p:Nat→Nat),La.Ech r n R p∧La.Same r m n R A∧r≤m∧∀ i j,i < r→j < n→Szq (R i j) (La.gro k m):=by
 have key:∀ c,c≤n→∃ (r:Nat) (R:Nat→Nat→Rat) (p:Nat→Nat) (a:Nat) (B:Nat→Nat→Rat),La.Elm m n A c r R p a B∧(∀ i j,i < r→j < n→Szq (R i j) (La.gro k r))∧∀ i j,i < a→j < n→Szq (B i j) (La.gro k r):=by
  intro c
  induction c with
  | zero=>exact fun _=>⟨0,A,id,m,A,La.Elm.start,fun i j h=>absurd h (Nat.not_lt_zero i),hs⟩
  | succ c ih =>
   intro hc
   obtain ⟨s,R,p,u,B,hE,sR,sA⟩:=ih (by omega)
   by_cases hz:∀ i,i < u→B i c=0
   ·exact ⟨s,R,p,u,B,hE.pass hz,sR,sA⟩
   obtain ⟨i,hi,hne⟩:∃ i,i < u∧B i c≠0:=by
    apply Classical.byContradiction
    intro hn
    exact hz fun i hi=>Classical.byContradiction fun h=>hn ⟨i,hi,h⟩
   have hcn:c < n:=by omega
   have sx:=sA i c hi hcn
   have sr:Szq (((1:Int):Rat) / B i c) (1+La.gro k s):=jq.div sx
   have hPe:∃ P:Nat→Rat,P=fun j=>((1:Int):Rat) / B i c*B i j:=⟨_,rfl⟩
   obtain ⟨P,hPe⟩:=hPe
   have hP:∀ j,P j=(B i c)⁻¹*B i j:=fun j=>by
    rw [hPe]
    show ((1:Int):Rat) / B i c*B i j=_
    rw [Rat.div_def,show ((1:Int):Rat)=1 from rfl,Rat.one_mul]
   have sP:∀ j,j < n→Szq (P j) (2*La.gro k s+1):=fun j hj=>by
    rw [hPe]
    exact (sr.mul (sA i j hi hj)).mono (by omega)
   have sC:∀ {f:Nat→Rat},(∀ j,j < n→Szq (f j) (La.gro k s))→∀ j,j < n→Szq (La.clr f P c j) (La.gro k (s+1)):=fun hf j hj=>((hf j hj).add ((hf c hcn).neg.mul (sP j hj))).mono (by show _≤4*La.gro k s+4; omega)
   refine ⟨s+1,fun t=>if t < s then La.clr (R t) P c else P,fun t=>if t < s then p t else c,u - 1,fun t=>La.clr (B (La.skip i t)) P c,
    hE.step hcn hi hne (fun j _=>hP j) (fun t j ht _=>by simp only [if_pos ht]) (fun j _=>by simp only [if_neg (Nat.lt_irrefl s)]) (fun t ht=>if_pos ht) (if_neg (Nat.lt_irrefl s)) ?_ ?_,?_,?_⟩
   ·intro t ht
    exact ⟨La.skip i t,by unfold La.skip; split<;>omega,by unfold La.skip; split<;>omega,fun _ _=>rfl⟩
   ·intro t ht htn
    refine ⟨if t < i then t else t - 1,by split<;>omega,fun j _=>?_⟩
    rw [show La.skip i (if t < i then t else t - 1)=t by
     unfold La.skip
     by_cases e:t < i
     ·rw [if_pos e,if_pos e]
     ·rw [if_neg e,if_neg (by omega)]; omega]
   ·intro t j ht hj
    by_cases e:t < s
    ·simp only [if_pos e]; exact sC (fun j hj=>sR t j e hj) j hj
    ·simp only [if_neg e]; exact (sP j hj).mono (by show _≤4*La.gro k s+4; omega)
   ·intro t j ht hj
    exact sC (fun j hj=>sA _ j (by unfold La.skip; split<;>omega) hj) j hj
 obtain ⟨r,R,p,a,B,hE,sR,-⟩:=key n (Nat.le_refl n)
 obtain ⟨h1,h2⟩:=hE.done (.inl rfl)
 have:=hE.cnt
 exact ⟨r,R,p,h1,h2,by omega,fun i j hi hj=>(sR i j hi hj).mono (La.gro_le (by omega))⟩
theorem Ech.small {m n r k:Nat} {A R:Nat→Nat→Rat} {p:Nat→Nat} (h:La.Ech r n R p) (e:La.Same r m n R A) (hs:∀ i j,i < m→j < n→Szq (A i j) k):∀ i j,i < r→j < n→Szq (R i j) (La.gro k m):=by
 obtain ⟨r',R',p',h1,h2,-,h3⟩:=jD hs
 obtain ⟨rfl,-,q⟩:=h.unique h1 (e.trans h2.symm)
 exact fun i j hi hj=>by rw [q i j hi hj]; exact h3 i j hi hj
theorem QdB {m n b:Nat} {T:Nat→Nat→Rat} (hb1:1≤b) (hs:∀ i j,i < m→j < n→Szq (T i j) b):∀ i j,i < m→j < n+m→Szq (La.aug n T i j) b:=fun i j hi hj=>by
 unfold La.aug
 split
 ·rename_i h; exact hs i j hi h
 ·unfold La.idm
  split
  ·exact jq.mono hb1
  ·exact VJ.mono hb1
theorem KerOf.small {m n s k:Nat} {T R:Nat→Nat→Rat} {q:Nat→Nat} (h:La.KerOf m n s T R q) (hk:1≤k) (hs:∀ i j,i < m→j < n→Szq (T i j) k):∀ i j,i < s→j < m→Szq (R i j) (La.gro k m):=by
 obtain ⟨r,S,p,h1,h2,-,h3⟩:=jD (QdB hk hs)
 obtain ⟨s',hs',hp1,hp2⟩:=La.split_pivots (n:=n) h1.mono
 obtain ⟨h4,-,-,-⟩:=La.kern_ref h1 h2 hs' hp1 hp2
 obtain ⟨rfl,-,h5⟩:=h.unique h4
 exact fun i j hi hj=>by rw [h5 i j hi hj]; exact h3 _ _ (by omega) (by omega)
theorem SolOf.small {m n k b:Nat} {T:Nat→Nat→Rat} {f x:Nat→Rat} (h:La.SolOf m n T f x) (hk:1≤k) (hs:∀ i j,i < m→j < n→Szq (T i j) k) (hb:1≤b) (hf:∀ j,j < n→Szq (f j) b):∀ i,i < m→Szq (x i) (La.dbl (La.gro k m) b m):=by
 obtain ⟨r,R,p,h1,h2,hrm,h3⟩:=jD (QdB hk hs)
 have key:∀ i,i≤r→∃ rest:Nat→Rat,(∀ j,j < n+m→Szq (rest j) (La.dbl (La.gro k m) b i))∧La.Sp r (n+m) R (fun j=>(if j < n then f j else 0) + -rest j)∧∀ t,t < i→rest (p t)=0:=by
  intro i
  induction i with
  | zero=>exact fun _=>⟨fun j=>if j < n then f j else 0,fun j _=>by
    show Szq (if j < n then f j else 0) b
    split
    ·rename_i h5; exact hf j h5
    ·exact VJ.mono hb,La.Sp.zero.congr (fun _ _ _ _=>rfl) fun j _=>(La.add_neg_self _).symm,fun t h=>absurd h (Nat.not_lt_zero t)⟩
  | succ i ih =>
   intro hi
   obtain ⟨rest,g1,g2,g3⟩:=ih (by omega)
   obtain ⟨g4,g5⟩:=La.rest_step h1 (by omega) g2 g3
   exact ⟨_,fun j hj=>((g1 j hj).add ((g1 (p i) (h1.lt i (by omega))).neg.mul (h3 i j (by omega) hj))).mono (by show _≤2*La.dbl (La.gro k m) b i+La.gro k m+1; omega),g4,g5⟩
 obtain ⟨rest,g1,g2,g3⟩:=key r (Nat.le_refl r)
 obtain ⟨g4,g5⟩:=La.solve_ref h1 h2 g2 g3
 have h6:=h.unique (g4 (g5 x h.1))
 exact fun i hi=>by
  rw [h6 i hi]
  exact (g1 (n+i) (by omega)).neg.mono (La.dbl_le hrm)
end Go.Proofs.YtnjpkncacddplaaGreat

/- The law of layer 9 on kernels. -/
namespace Go.Proofs.YtnjpkncacddplaaGreat
open Go.Hp
variable {G:World} {U U':UH} {M M':MH}
end Go.Proofs.YtnjpkncacddplaaGreat

/- Walks of the reference of layer 9: Solve. -/
namespace Go.Proofs.YtnjpkncacddplaaGreat
open Go.Hp
variable {G:World} {U U':UH} {M M':MH}
end Go.Proofs.YtnjpkncacddplaaGreat

/- Walks of the reference of layer 9: Inverse. -/
namespace Go.Proofs.YtnjpkncacddplaaGreat
open Go.Hp
variable {G:World} {U U':UH} {M M':MH}
end Go.Proofs.YtnjpkncacddplaaGreat

/- The law of layer 9 on inverses. -/
namespace Go.Proofs.YtnjpkncacddplaaGreat
open Go.Hp
variable {G:World} {U U':UH} {M M':MH}
theorem Qbt {n b:Nat} {vm:Value} {A:Nat→Nat→Rat} (hm:Vm (Wq b) n n U vm A) (hb1:1≤b) (hg1:1+n*La.gro b n≤1000000000) (hgW:La.gro b n≤1000000000) (hn1:n≤1000) :
  Ct Tryz.prog 61 [vm] G U M fun v U' D=>∃ (r:Nat) (R:Nat→Nat→Rat) (p:Nat→Nat) (vX:Value) (e:Int),v = .tuple #[vX,.int .i64 e]∧EchOf n n r A R p∧(r < n→e=11∧vX = .agg #[.int .i64 0,.int .i64 0,.slice none 0 0]) ∧
   (r=n→e=0∧∃ X:Nat→Nat→Rat,Vm Vq n n U' vX X∧(∀ i j,i < n→j < n→La.mm n X A i j=La.idm i j)∧∀ i j,i < n→j < n→Szq (X i j) (La.gro b n))∧D=[] :=
 (Qcc hm hb1 hg1 hgW hn1).settle.mono fun _ _ _ _ ⟨h1,_,_,⟨r,R,p,vX,e,h2,h3,h4,h5,_⟩,_,h7,h8⟩ =>
  ⟨r,R,p,vX,e,h2,h3,fun hr=>⟨(h4 hr).1,(h4 hr).2.1⟩,fun hr=>by
   obtain ⟨h9,X,⟨a,h10,h11⟩,h12⟩:=h5 hr
   exact ⟨h9,X,⟨a,h10,h11.sett JC h7 h8⟩,h12⟩,h1⟩
end Go.Proofs.YtnjpkncacddplaaGreat

/- The law of layer 9 on solutions. -/
namespace Go.Proofs.YtnjpkncacddplaaGreat
open Go.Hp
variable {G:World} {U U':UH} {M M':MH}
def Rats (U:UH) (v:Value) (n:Nat) (f:Nat→Rat):Prop:=n≤9223372036854775807∧Ls Xq 4 n U [] v f
end Go.Proofs.YtnjpkncacddplaaGreat

/- Walks of matrix: Identity, Power. -/
namespace Go.Proofs.YtnjpkncacddplaaGreat
open Go.Hp
variable {G:World} {U U':UH} {M M':MH}
def mpow (n:Nat) (A:Nat→Nat→Rat):Nat→Nat→Nat→Rat
 | 0=>La.idm
 | k+1=>La.mm n (mpow n A k) A
end Go.Proofs.YtnjpkncacddplaaGreat

/- The law of layer 9 on powers. -/
namespace Go.Proofs.YtnjpkncacddplaaGreat
open Go.Hp
variable {G:World} {U U':UH} {M M':MH}
def psz (n b:Nat):Nat→Nat
 | 0=>1
 | k+1=>1+n*(psz n b k+b+1)
end Go.Proofs.YtnjpkncacddplaaGreat
