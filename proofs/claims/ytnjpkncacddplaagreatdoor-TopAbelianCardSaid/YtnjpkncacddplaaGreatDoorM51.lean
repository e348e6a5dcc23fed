/- Texts of this seat's own, merged: each begins with its own remark. -/
import Derived.Test.YtnjpkncacddplaaGreatDoorM14
import Derived.Test.YtnjpkncacddplaaGreatDoorM19
import Derived.Test.YtnjpkncacddplaaGreatDoorM35
import Derived.Test.YtnjpkncacddplaaGreatDoorVz
import Derived.Test.YtnjpkncacddplaaGreatDoorM25
import Derived.Test.YtnjpkncacddplaaGreatDoorM50
import Derived.Test.YtnjpkncacddplaaGreatDoorM23
import Derived.Test.YtnjpkncacddplaaGreatDoorM40
import Derived.Test.YtnjpkncacddplaaGreatDoorM26
import Derived.Test.YtnjpkncacddplaaGreatDoorM48
import Derived.Test.YtnjpkncacddplaaGreatDoorHl
import Derived.Test.YtnjpkncacddplaaGreatDoorM7
import Derived.Test.YtnjpkncacddplaaGreatDoorM4
import Derived.Test.YtnjpkncacddplaaGreatDoorM2
import Derived.Test.YtnjpkncacddplaaGreatDoorB38
import Derived.Test.YtnjpkncacddplaaGreatDoorM1
/- Walks of layer 36: elements within the limit, matrices of fractions. -/
namespace Go.Proofs.YtnjpkncacddplaaGreatDoor
open Go.Hp
variable {G:World} {U U':UH} {M:MH}
theorem pgs {α:Type} {a b:List α} (h:∀ f:α→Nat,(a.map f).sum=(b.map f).sum:=by intro f; simp only [List.set_cons_zero,List.set_cons_succ,TInt,TIs,TR,TM,zeroQV,zeroIV0,QV.v,List.map_append,List.map_cons,List.sum_append,List.sum_cons,List.flatten_cons,List.flatten_append,List.flatten_nil,List.map_nil,List.sum_nil,List.nil_append,List.append_nil]; omega):a.Perm b:=pq h
end Go.Proofs.YtnjpkncacddplaaGreatDoor

/- Walk of theta.Check. -/
namespace Go.Proofs.YtnjpkncacddplaaGreatDoor
open Go.Hp
open Classical
variable {G:World} {U U':UH} {M:MH}
def Evn (n:Nat) (f:Nat→Int):Prop:=∀ i,i < n→(∀ k,k < n→f (i*n+k)=f (k*n+i))∧(f (i*n+i)).tmod 2=0
def Pdm (n:Nat) (f:Nat→Int):Prop:=∀ k,1≤k→k≤n→0 < La.det k fun i j=>((f (i*n+j):Int):Rat)
noncomputable def chk (r:Int) (N:Nat) (f:Nat→Int):Int :=
 if r < 1∨r > 8 then 2 else if (N:Int)≠r*r then 4 else if ¬ (∀ k,k < N → -1000≤f k∧f k≤1000) then 2 else if ¬ Evn r.toNat f then 3 else if ¬ Pdm r.toNat f then 27 else 0
end Go.Proofs.YtnjpkncacddplaaGreatDoor

/- Walks of layer 36: determinants. -/
namespace Go.Proofs.YtnjpkncacddplaaGreatDoor
open Go.Hp
variable {G:World} {U U':UH} {M:MH}
end Go.Proofs.YtnjpkncacddplaaGreatDoor

/- Walks of layer 36: Det. -/
namespace Go.Proofs.YtnjpkncacddplaaGreatDoor
open Go.Hp
open Classical
variable {G:World} {U U':UH} {M:MH}
end Go.Proofs.YtnjpkncacddplaaGreatDoor

/- Walks of layer 36: inverse matrices. -/
namespace Go.Proofs.YtnjpkncacddplaaGreatDoor
open Go.Hp
variable {G:World} {U U':UH} {M:MH}
end Go.Proofs.YtnjpkncacddplaaGreatDoor

/- Walks of layer 36: Level (begun: only the plain part). -/
namespace Go.Proofs.YtnjpkncacddplaaGreatDoor
open Go.Hp
variable {G:World} {U U':UH} {M:MH}
def dlv (n:Nat) (X:Nat→Nat→Rat) (i:Nat):Nat:=(if i / n=i % n then fl n X i*((1:Rat) / 2) else fl n X i).den
end Go.Proofs.YtnjpkncacddplaaGreatDoor

/- Walk of theta.Level (under way). -/
namespace Go.Proofs.YtnjpkncacddplaaGreatDoor
open Go.Hp
open Classical
variable {G:World} {U U':UH} {M:MH}
end Go.Proofs.YtnjpkncacddplaaGreatDoor

/- The inverse of a form: sizes, signs; the box's sides. -/
namespace Go.Proofs.YtnjpkncacddplaaGreatDoor
open Go.Hp
variable {G:World} {U U':UH} {M:MH}
def gq (n:Nat) (f:Nat→Int):Nat→Nat→Rat:=fun i j=>((f (i*n+j):Int):Rat)
def gz (n:Nat) (f:Nat→Int):Nat→Nat→Int:=fun i j=>f (i*n+j)
structure Inv (n:Nat) (f:Nat→Int) (X:Nat→Nat→Rat):Prop where
 left:∀ i j,i < n→j < n→La.mm n X (gq n f) i j=La.idm i j
 right:∀ i j,i < n→j < n→La.mm n (gq n f) X i j=La.idm i j
 sz:∀ i j,i < n→j < n→Szq (X i j) 3
 pos:∀ i,i < n→0 < X i i
 adj:∀ i j,i < n→j < n→((Lr.det n (gz n f):Int):Rat)*X i j=((Lr.adj n (gz n f) i j:Int):Rat)
theorem Inv.uniq {n:Nat} {f:Nat→Int} {X Y:Nat→Nat→Rat} (h:Inv n f X) (h':Inv n f Y) {i j:Nat} (hi:i < n) (hj:j < n):X i j=Y i j:=by
 have h1:La.mm n X (La.mm n (gq n f) Y) i j=X i j:=by
  show (La.sm n fun k=>X i k*La.mm n (gq n f) Y k j)=_
  rw [La.sm_one j hj fun k hk hne=>by rw [h'.right k j hk hj,show (La.idm k j:Rat)=0 from if_neg hne,Rat.mul_zero],h'.right j j hj hj,show (La.idm j j:Rat)=1 from if_pos rfl,Rat.mul_one]
 rw [← h1,← La.mm_asc]
 show (La.sm n fun k=>La.mm n X (gq n f) i k*Y k j)=_
 rw [La.sm_one i hi fun k hk hne=>by rw [h.left i k hi hk,show (La.idm i k:Rat)=0 from if_neg (Ne.symm hne),Rat.zero_mul],h.left i i hi hi,show (La.idm i i:Rat)=1 from if_pos rfl,Rat.one_mul]
noncomputable def bd (X:Nat→Nat→Rat) (m i:Nat):Nat:=Bx.isq ((((2*m:Int)):Rat)*X i i).floor.natAbs
end Go.Proofs.YtnjpkncacddplaaGreatDoor

/- Walk of theta.box. -/
namespace Go.Proofs.YtnjpkncacddplaaGreatDoor
open Go.Hp
variable {G:World} {U U':UH} {M:MH}
def BoxO (X:Nat→Nat→Rat) (m n:Nat) (U U':UH) (D:MH) (v:Value):Prop :=
 (Bx.pre (bd X m) n≤1048576→∃ s,v = .tuple #[s,.bool true]∧Lo Vz TInt 1 n U' D s (fun i=>(bd X m i:Int))) ∧
 (1048576 < Bx.pre (bd X m) n→v = .tuple #[.slice none 0 0,.bool false]∧D=[])∧ULe U U'
end Go.Proofs.YtnjpkncacddplaaGreatDoor
