/- Texts of this seat's own, merged: each begins with its own remark. -/
import Derived.Test.YtnjpkncacddplaaGreatDoorM14
import Derived.Test.YtnjpkncacddplaaGreatDoorM19
import Derived.Test.YtnjpkncacddplaaGreatDoorM35
import Derived.Test.YtnjpkncacddplaaGreatDoorVz
import Derived.Test.YtnjpkncacddplaaGreatDoorM25
import Derived.Test.YtnjpkncacddplaaGreatDoorM50
import Derived.Test.YtnjpkncacddplaaGreatDoorM23
import Derived.Test.YtnjpkncacddplaaGreatDoorM40
import Derived.Test.YtnjpkncacddplaaGreatDoorM26
import Derived.Test.YtnjpkncacddplaaGreatDoorM48
import Derived.Test.YtnjpkncacddplaaGreatDoorM7
import Derived.Test.YtnjpkncacddplaaGreatDoorM4
import Derived.Test.YtnjpkncacddplaaGreatDoorM2
import Derived.Test.YtnjpkncacddplaaGreatDoorB38
import Derived.Test.YtnjpkncacddplaaGreatDoorM1
import Derived.Test.YtnjpkncacddplaaGreatDoorHl
/- Walks of layer 36: elements within the limit, matrices of fractions. -/
namespace Go.Proofs.YtnjpkncacddplaaGreatDoor
open Go.Hp
variable {G:World} {U U':UH} {M:MH}
end Go.Proofs.YtnjpkncacddplaaGreatDoor

/- Walk of theta.Check. -/
namespace Go.Proofs.YtnjpkncacddplaaGreatDoor
open Go.Hp
open Classical
variable {G:World} {U U':UH} {M:MH}
def Evn (n:Nat) (f:Nat→Int):Prop:=∀ i,i < n→(∀ k,k < n→f (i*n+k)=f (k*n+i))∧(f (i*n+i)).tmod 2=0
def Pdm (n:Nat) (f:Nat→Int):Prop:=∀ k,1≤k→k≤n→0 < La.det k fun i j=>((f (i*n+j):Int):Rat)
noncomputable def chk (r:Int) (N:Nat) (f:Nat→Int):Int :=
 if r < 1∨r > 8 then 2 else if (N:Int)≠r*r then 4 else if ¬ (∀ k,k < N → -1000≤f k∧f k≤1000) then 2 else if ¬ Evn r.toNat f then 3 else if ¬ Pdm r.toNat f then 27 else 0
end Go.Proofs.YtnjpkncacddplaaGreatDoor

/- Walks of layer 36: determinants. -/
namespace Go.Proofs.YtnjpkncacddplaaGreatDoor
open Go.Hp
variable {G:World} {U U':UH} {M:MH}
end Go.Proofs.YtnjpkncacddplaaGreatDoor

/- Walks of layer 36: Det. -/
namespace Go.Proofs.YtnjpkncacddplaaGreatDoor
open Go.Hp
open Classical
variable {G:World} {U U':UH} {M:MH}
end Go.Proofs.YtnjpkncacddplaaGreatDoor

/- Walks of layer 36: inverse matrices. -/
namespace Go.Proofs.YtnjpkncacddplaaGreatDoor
open Go.Hp
variable {G:World} {U U':UH} {M:MH}
end Go.Proofs.YtnjpkncacddplaaGreatDoor

/- The inverse of a form: sizes, signs; the box's sides. -/
namespace Go.Proofs.YtnjpkncacddplaaGreatDoor
open Go.Hp
variable {G:World} {U U':UH} {M:MH}
theorem QcF {q:Rat} {D z:Int} {s:Nat} (hD:D≠0) (h:(D:Rat)*q=(z:Rat)) (hz:Sz z s) (hd:Sz D s) (hs:1≤s):Szq q s:=by
 have hD0:(D:Rat)≠0:=fun h0=>hD (Rat.intCast_inj.1 (h0.trans (show (0:Rat)=((0:Int):Rat) from rfl)))
 have e:q=Rat.divInt z D:=by
  rw [Rat.divInt_eq_div,← h,Rat.mul_comm,Rat.div_def,Rat.mul_assoc,Rat.mul_inv_cancel _ hD0,Rat.mul_one]
 rw [e]
 exact Vy hz hd hs
def gq (n:Nat) (f:Nat→Int):Nat→Nat→Rat:=fun i j=>((f (i*n+j):Int):Rat)
def gz (n:Nat) (f:Nat→Int):Nat→Nat→Int:=fun i j=>f (i*n+j)
structure Inv (n:Nat) (f:Nat→Int) (X:Nat→Nat→Rat):Prop where
 left:∀ i j,i < n→j < n→La.mm n X (gq n f) i j=La.idm i j
 right:∀ i j,i < n→j < n→La.mm n (gq n f) X i j=La.idm i j
 sz:∀ i j,i < n→j < n→Szq (X i j) 3
 pos:∀ i,i < n→0 < X i i
 adj:∀ i j,i < n→j < n→((Lr.det n (gz n f):Int):Rat)*X i j=((Lr.adj n (gz n f) i j:Int):Rat)
theorem QfM {n:Nat} {f:Nat→Int}:La.det n (gq n f)=((Lr.det n (gz n f):Int):Rat):=by
 have h:=Fq.hom_q.det n (gz n f)
 rw [Lr.det_la] at h
 exact h.symm
theorem jX {n:Nat} {f:Nat→Int} (he:Evn n f) (hp:Pdm n f):(∀ i j,i < n→j < n→gq n f i j=gq n f j i)∧La.Pdf n (gq n f)∧(1≤n→0 < Lr.det n (gz n f)):=by
 have hs:∀ i j,i < n→j < n→gq n f i j=gq n f j i:=fun i j hi hj=>congrArg (fun z:Int=>(z:Rat)) ((he i hi).1 j hj)
 refine ⟨hs,La.minors_pdf hs hp,fun h1=>?_⟩
 have h2:0 < La.det n (gq n f):=hp n h1 (Nat.le_refl n)
 rw [QfM] at h2
 exact Rat.intCast_lt_intCast.1 h2
theorem QfQ {n:Nat} {f:Nat→Int} {X:Nat→Nat→Rat} (hb:∀ k,k < n*n → -1000≤f k∧f k≤1000) (he:Evn n f) (hp:Pdm n f) (h1n:1≤n) (hn:n≤8) (hX:∀ i j,i < n→j < n→La.mm n X (gq n f) i j=La.idm i j):Inv n f X:=by
 obtain ⟨hs,hpd,hd⟩:=jX he hp
 have hd:=hd h1n
 have hbb:∀ i j,i < n→j < n → -1000≤gz n f i j∧gz n f i j≤1000:=fun i j hi hj=>hb _ (Qdx hi hj)
 have hr:=fun i j (hi:i < n) (hj:j < n)=>La.inv_rt (A:=gz n f) hX (by omega) hi hj
 have e3:(3000 ^ 8:Nat) < 4294967296 ^ 3:=by decide
 exact ⟨hX,hr,fun i j hi hj=>QcF (D:=Lr.det n (gz n f)) (by omega) (La.inv_adj (A:=gz n f) hX hi hj) (Nat.lt_of_le_of_lt (La.adj_bd hn hbb) e3) (Nat.lt_of_le_of_lt (La.det_bd hn hbb) e3) (by decide),
  fun i hi=>La.pos_diag hs hpd hr hi,fun i j hi hj=>La.inv_adj (A:=gz n f) hX hi hj⟩
theorem Inv.uniq {n:Nat} {f:Nat→Int} {X Y:Nat→Nat→Rat} (h:Inv n f X) (h':Inv n f Y) {i j:Nat} (hi:i < n) (hj:j < n):X i j=Y i j:=by
 have h1:La.mm n X (La.mm n (gq n f) Y) i j=X i j:=by
  show (La.sm n fun k=>X i k*La.mm n (gq n f) Y k j)=_
  rw [La.sm_one j hj fun k hk hne=>by rw [h'.right k j hk hj,show (La.idm k j:Rat)=0 from if_neg hne,Rat.mul_zero],h'.right j j hj hj,show (La.idm j j:Rat)=1 from if_pos rfl,Rat.mul_one]
 rw [← h1,← La.mm_asc]
 show (La.sm n fun k=>La.mm n X (gq n f) i k*Y k j)=_
 rw [La.sm_one i hi fun k hk hne=>by rw [h.left i k hi hk,show (La.idm i k:Rat)=0 from if_neg (Ne.symm hne),Rat.zero_mul],h.left i i hi hi,show (La.idm i i:Rat)=1 from if_pos rfl,Rat.one_mul]
noncomputable def bd (X:Nat→Nat→Rat) (m i:Nat):Nat:=Bx.isq ((((2*m:Int)):Rat)*X i i).floor.natAbs
end Go.Proofs.YtnjpkncacddplaaGreatDoor

/- Walks of layer 36: Level (begun: only the plain part). -/
namespace Go.Proofs.YtnjpkncacddplaaGreatDoor
open Go.Hp
variable {G:World} {U U':UH} {M:MH}
def dlv (n:Nat) (X:Nat→Nat→Rat) (i:Nat):Nat:=(if i / n=i % n then fl n X i*((1:Rat) / 2) else fl n X i).den
end Go.Proofs.YtnjpkncacddplaaGreatDoor

/- Walk of theta.box. -/
namespace Go.Proofs.YtnjpkncacddplaaGreatDoor
open Go.Hp
variable {G:World} {U U':UH} {M:MH}
def BoxO (X:Nat→Nat→Rat) (m n:Nat) (U U':UH) (D:MH) (v:Value):Prop :=
 (Bx.pre (bd X m) n≤1048576→∃ s,v = .tuple #[s,.bool true]∧Lo Vz TInt 1 n U' D s (fun i=>(bd X m i:Int))) ∧
 (1048576 < Bx.pre (bd X m) n→v = .tuple #[.slice none 0 0,.bool false]∧D=[])∧ULe U U'
end Go.Proofs.YtnjpkncacddplaaGreatDoor

/- Walk of theta.Level (under way). -/
namespace Go.Proofs.YtnjpkncacddplaaGreatDoor
open Go.Hp
open Classical
variable {G:World} {U U':UH} {M:MH}
end Go.Proofs.YtnjpkncacddplaaGreatDoor
