/- Texts of this seat's own, merged: each begins with its own remark. -/
import Derived.Test.YtnjpkncacddplaaGreatDoorM56
import Derived.Test.YtnjpkncacddplaaGreatDoorM17
import Derived.Test.YtnjpkncacddplaaGreatDoorM51
import Derived.Test.YtnjpkncacddplaaGreatDoorM50
import Derived.Test.YtnjpkncacddplaaGreatDoorM58
import Derived.Test.YtnjpkncacddplaaGreatDoorM53
import Derived.Test.YtnjpkncacddplaaGreatDoorM95
import Derived.Test.YtnjpkncacddplaaGreatDoorM15
import Derived.Test.YtnjpkncacddplaaGreatDoorB193
import Derived.Test.YtnjpkncacddplaaGreatDoorM43
/- Walks of layer 36's reference: even, Level. -/
namespace Go.Proofs.YtnjpkncacddplaaGreatDoor
open Go.Hp
variable {G:World} {U U':UH} {M:MH}
def dle (A:Nat→Nat→Rat) (i k:Nat):Rat:=if i=k then A i k*((1:Rat) / 2) else A i k
end Go.Proofs.YtnjpkncacddplaaGreatDoor

/- Walks of layer 36's reference: Level. -/
namespace Go.Proofs.YtnjpkncacddplaaGreatDoor
open Go.Hp
variable {G:World} {U U':UH} {M:MH}
end Go.Proofs.YtnjpkncacddplaaGreatDoor

/- Change of basis: inverses, levels. No condition. -/
namespace Go.La
def Eqm (n:Nat) (A B:Mx Rat):Prop:=∀ i j,i < n→j < n→A i j=B i j
theorem Eqm.refl {n:Nat} (A:Mx Rat):Eqm n A A:=fun _ _ _ _=>rfl
theorem Eqm.trans {n:Nat} {A B C:Mx Rat} (h:Eqm n A B) (h':Eqm n B C):Eqm n A C:=fun i j hi hj=>(h i j hi hj).trans (h' i j hi hj)
theorem Eqm.symm {n:Nat} {A B:Mx Rat} (h:Eqm n A B):Eqm n B A:=fun i j hi hj=>(h i j hi hj).symm
theorem Eqm.mm {n:Nat} {A A' B B':Mx Rat} (h:Eqm n A A') (h':Eqm n B B'):Eqm n (mm n A B) (mm n A' B'):=fun i j hi hj=>sm_congr fun k hk=>by rw [h i k hi hk,h' k j hk hj]
theorem Eqm.tr {n:Nat} {A B:Mx Rat} (h:Eqm n A B):Eqm n (tr A) (tr B):=fun i j hi hj=>h j i hj hi
def dge (A:Mx Rat) (i k:Nat):Rat:=if i=k then A i k*((1:Rat) / 2) else A i k
end Go.La

/- A change of basis of a form: plain. -/
namespace Go.Proofs.YtnjpkncacddplaaGreatDoor
open Go.Hp
open Go.La (Eqm)
variable {G:World} {U U':UH} {M:MH}
end Go.Proofs.YtnjpkncacddplaaGreatDoor

/- Laws of layer 36: Expansions. -/
namespace Go.Proofs.YtnjpkncacddplaaGreatDoor
open Go.Hp
variable {G:World} {U U':UH} {M:MH}
def ExpA (r prec:Int) (N:Nat) (f:Nat→Int) (U:UH) (v:Value):Prop :=
 (chk r N f≠0→v = .tuple #[.agg #[.int .i64 0,.slice none 0 0],.int .i64 (chk r N f)]) ∧
  (∀ n:Nat,r=(n:Int)→chk r N f=0→((prec < 0∨1000 < prec)→v = .tuple #[.agg #[.int .i64 0,.slice none 0 0],.int .i64 2])∧(∀ P:Nat,prec=(P:Int)→P≤1000→WgtO n f P U v))
end Go.Proofs.YtnjpkncacddplaaGreatDoor

/- A change of basis of a form: the vectors of a number. -/
namespace Go.Proofs.YtnjpkncacddplaaGreatDoor
open Go.Hp
open Go.La (Eqm)
variable {G:World} {U U':UH} {M:MH}
theorem Qmz {n m:Nat} {f x:Nat→Int} {X:Nat→Nat→Rat} (hs:∀ i j,i < n→j < n→gq n f i j=gq n f j i) (hpd:La.Pdf n (gq n f)) (hX:Inv n f X) (hq:qp n f x n≤2*(m:Int)) {i:Nat} (hi:i < n) : -(bd X m i:Int)≤x i∧x i≤bd X m i:=by
 have h1:=Bx.coord hs hpd hX.right hi (fun j=>((x j:Int):Rat))
 rw [← Qmo] at h1
 have hp:=hX.pos i hi
 have h2:(((x i*x i:Int)):Rat)≤(((2*m:Int)):Rat)*X i i:=by
  rw [Rat.intCast_mul]
  exact Rat.le_trans h1 (Rat.mul_le_mul_of_nonneg_right (Rat.intCast_le_intCast.2 hq) (Rat.le_of_lt hp))
 have h3:x i*x i≤((((2*m:Int)):Rat)*X i i).floor:=Rat.le_floor_iff.2 h2
 have h4:=Bx.isq_hi ((((2*m:Int)):Rat)*X i i).floor.natAbs
 have h5:(x i).natAbs*(x i).natAbs≤((((2*m:Int)):Rat)*X i i).floor.natAbs:=by
  have h6:((x i).natAbs*(x i).natAbs:Int)=x i*x i:=Int.natAbs_mul_self' (x i)
  have h7:0≤x i*x i:=by rw [← h6,← Int.natCast_mul]; exact Int.natCast_nonneg _
  generalize ((((2*m:Int)):Rat)*X i i).floor=F at h3
  have:(((x i).natAbs*(x i).natAbs:Nat):Int)≤(F.natAbs:Int):=by rw [Int.natCast_mul,h6]; omega
  exact Int.ofNat_le.1 this
 have h8:(x i).natAbs≤bd X m i:=by
  unfold bd
  refine Nat.le_of_not_lt fun h9=>?_
  generalize Bx.isq ((((2*m:Int)):Rat)*X i i).floor.natAbs=R at h4 h9
  have h10:R+1≤(x i).natAbs:=h9
  have:=Nat.mul_le_mul h10 h10
  omega
 omega
theorem QdJ {n:Nat} {f x y:Nat→Int} (h:∀ i,i < n→x i=y i):qp n f x n=qp n f y n:=by
 unfold qp rp
 exact Lr.sm_congr fun a ha=>by rw [h a ha,Lr.sm_congr fun j hj=>by rw [h j hj]]
def act (n:Nat) (W:Nat→Nat→Int) (y:Nat→Int):Nat→Int:=fun a=>Lr.sm n fun i=>y i*W i a
theorem QnA {n m q:Nat} {f g:Nat→Int} {b':Nat→Nat} {X:Nat→Nat→Rat} {W:Nat→Nat→Int} (hef:Evn n f) (heg:Evn n g) (hsf:∀ i j,i < n→j < n→gq n f i j=gq n f j i) (hpf:La.Pdf n (gq n f)) (hpg:La.Pdf n (gq n g)) (hX:Inv n f X)
  (hval:∀ y:Nat→Int,qp n g y n=qp n f (act n W y) n) (hinj:∀ y y':Nat→Int,(∀ a,a < n→act n W y a=act n W y' a)→∀ i,i < n→y i=y' i) (hq:q≤m) :
  cv n g b' (Bx.pre b' n) q≤cv n f (bd X m) (Bx.pre (bd X m) n) q:=by
 have two:∀ {h:Nat→Int} {x:Nat→Int},Evn n h→qp n h x n=2*qv n h x:=fun he=>by
  obtain ⟨z,hz⟩:=Qlg he
  unfold qv
  rw [hz,Int.mul_tdiv_cancel_left _ (by decide)]
 have hex:∀ k,∃ l,vn n g b' k=q→l < Bx.pre (bd X m) n∧∀ i,i < n→Bx.vec (bd X m) n l i=act n W (Bx.vec b' n k) i:=fun k=>by
  by_cases e:vn n g b' k=q
  ·have h1:=QgJ (k:=k) (b:=b') hpg
   rw [e] at h1
   have h2:=two (x:=Bx.vec b' n k) heg
   rw [h1,hval] at h2
   obtain ⟨l,h3,h4⟩:=Bx.vec_ex (b:=bd X m) n (act n W (Bx.vec b' n k)) fun i hi=>Qmz hsf hpf hX (by omega) hi
   exact ⟨l,fun _=>⟨by rw [← Bx.pre_vol]; exact h3,h4⟩⟩
  ·exact ⟨0,fun h=>absurd h e⟩
 obtain ⟨s,hs⟩:∃ s:Nat→Nat,∀ k,vn n g b' k=q→s k < Bx.pre (bd X m) n∧∀ i,i < n→Bx.vec (bd X m) n (s k) i=act n W (Bx.vec b' n k) i:=⟨fun k=>Classical.choose (hex k),fun k=>Classical.choose_spec (hex k)⟩
 refine Bx.cnt_inj s _ _ _ (fun k hk hf=>?_) (fun k l hk hl hf hg e=>?_)
 ·have e:=beq_iff_eq.1 hf
  obtain ⟨h1,h2⟩:=hs k e
  refine ⟨h1,beq_iff_eq.2 ?_⟩
  have h3:qv n f (Bx.vec (bd X m) n (s k))=qv n g (Bx.vec b' n k):=by
   have h4:=two (x:=Bx.vec (bd X m) n (s k)) hef
   rw [QdJ h2,← hval,two heg] at h4
   omega
  have h5:=QgJ (k:=s k) (b:=bd X m) hpf
  have h6:=QgJ (k:=k) (b:=b') hpg
  omega
 ·obtain ⟨h1,h2⟩:=hs k (beq_iff_eq.1 hf)
  obtain ⟨h3,h4⟩:=hs l (beq_iff_eq.1 hg)
  rw [← Bx.pre_vol] at hk hl
  exact Bx.vec_inj n hk hl (hinj _ _ fun a ha=>by rw [← h2 a ha,← h4 a ha,e])
theorem Skp.congr {g g':Nat→Rat} {N s:Nat} (h:Skp g N s) (e:∀ q,q < N→g q=g' q):Skp g' N s :=
 ⟨h.1,fun a ha=>by rw [← e a (by have:=h.1; omega)]; exact h.2.1 a ha,fun hs=>by rw [← e s hs]; exact h.2.2 hs⟩
end Go.Proofs.YtnjpkncacddplaaGreatDoor

/- Laws of layer 36: Operations. -/
namespace Go.Proofs.YtnjpkncacddplaaGreatDoor
open Go.Hp
open Classical
variable {G:World} {U U':UH} {M:MH}
def grn (e:Int) (n:Nat):Nat:=if e=0 then n else 0
end Go.Proofs.YtnjpkncacddplaaGreatDoor

/- Walks of reference 33: free, Fundamental; square of reference 36. -/
namespace Go.Proofs.YtnjpkncacddplaaGreatDoor
open Go.Hp
variable {G:World} {U U':UH} {M:MH}
def Fdm (z:Int):Prop:=z % 4=1∧Fq.Sqf z.natAbs∨z % 4=0∧(z / 4) % 4 > 1∧Fq.Sqf (z / 4).natAbs
end Go.Proofs.YtnjpkncacddplaaGreatDoor

/- Walks of layer 36's reference: Disc. -/
namespace Go.Proofs.YtnjpkncacddplaaGreatDoor
open Go.Hp
variable {G:World} {U U':UH} {M:MH}
def dtn (n:Nat) (f:Nat→Int):Nat:=(Lr.det n (gz n f)).natAbs
def sgd (n:Nat):Int:=if n % 4=0 then 1 else -1
def DscO (n:Nat) (f:Nat→Int) (v:Value):Prop :=
 (∃ d:Nat,1≤d∧d≤600∧Fq.Cnd (dtn n f) (sgd n) (sgd n) d∧v = .tuple #[.int .i64 (sgd n*d),.int .i64 0])∨((∀ d:Nat,d≤600→¬ Fq.Cnd (dtn n f) (sgd n) (sgd n) d)∧v = .tuple #[.int .i64 0,.int .i64 7])
end Go.Proofs.YtnjpkncacddplaaGreatDoor

/- Walks of layer 36: Disc. -/
namespace Go.Proofs.YtnjpkncacddplaaGreatDoor
open Go.Hp
open Go.Fq (Prm Sqf)
variable {G:World} {U U':UH} {M:MH}
structure Dst (D:Nat) (P:Nat→Nat) (k Fn w lf:Nat):Prop where
 eq:D=Fn*(w*w)*lf
 w0:0 < w
 l0:0 < lf
 sq:Sqf Fn
 of:∀ q,Prm q→q ∣ Fn→∃ i,i < k∧P i=q
 no:∀ i,i < k→¬ P i ∣ lf
 le:Fn≤600
theorem Dst.next {D k Fn w lf w' lf':Nat} {P:Nat→Nat} (h:Dst D P k Fn w lf) (hd:lf' ∣ lf) (h0:0 < lf') (hw:0 < w') (he:D=Fn*(w'*w')*1*lf') (hp:¬ P k ∣ lf'):Dst D P (k+1) Fn w' lf' :=
 ⟨by rw [he,Nat.mul_one],hw,h0,h.sq,fun q h1 h2=>by
  obtain ⟨i,h3,h4⟩:=h.of q h1 h2
  exact ⟨i,by omega,h4⟩,fun i hi h1=>by
  rcases Nat.lt_or_eq_of_le (Nat.le_of_lt_succ hi) with h2 | h2
  ·exact h.no i h2 (Nat.dvd_trans h1 hd)
  ·exact hp (h2 ▸ h1),h.le⟩
theorem Dst.odd {D k K p0 Fn w lf w' lf':Nat} {P:Nat→Nat} (h:Dst D P k Fn w lf) (hP:PrL p0 K P) (hk:k < K) (hd:lf' ∣ lf) (he:D=Fn*(w'*w')*P k*lf') (hp:¬ P k ∣ lf') :
  Sqf (Fn*P k)∧D=Fn*P k*(w'*w')*lf'∧(∀ q,Prm q→q ∣ Fn*P k→∃ i,i < k+1∧P i=q)∧∀ i,i < k+1→¬ P i ∣ lf':=by
 have hpk:=(hP.prm k hk).1
 refine ⟨h.sq.mul hpk fun h1=>?_,by rw [he]; simp only [Nat.mul_left_comm,Nat.mul_comm],fun q h1 h2=>?_,fun i hi h1=>?_⟩
 ·obtain ⟨i,h2,h3⟩:=h.of _ hpk h1
  have:=hP.mono i k h2 hk
  omega
 ·rcases Fq.prm_mul h1 h2 with h3 | h3
  ·obtain ⟨i,h4,h5⟩:=h.of q h1 h3
   exact ⟨i,by omega,h5⟩
  ·exact ⟨k,by omega,(Fq.prm_dvd h1 hpk h3).symm⟩
 ·rcases Nat.lt_or_eq_of_le (Nat.le_of_lt_succ hi) with h2 | h2
  ·exact h.no i h2 (Nat.dvd_trans h1 hd)
  ·exact hp (h2 ▸ h1)
def DscP (n:Nat) (f:Nat→Int) (v:Value):Prop :=
 (∃ d:Nat,1≤d∧d≤600∧(∀ a:Nat,a≤600→(Fq.Cnd (dtn n f) (sgd n) (sgd n) a↔a=d))∧v = .tuple #[.int .i64 (sgd n*d),.int .i64 0])∨((∀ d:Nat,d≤600→¬ Fq.Cnd (dtn n f) (sgd n) (sgd n) d)∧v = .tuple #[.int .i64 0,.int .i64 7])
end Go.Proofs.YtnjpkncacddplaaGreatDoor

/- Laws of layer 36: Forms. -/
namespace Go.Proofs.YtnjpkncacddplaaGreatDoor
open Go.Hp
variable {G:World} {U U':UH} {M:MH}
end Go.Proofs.YtnjpkncacddplaaGreatDoor
