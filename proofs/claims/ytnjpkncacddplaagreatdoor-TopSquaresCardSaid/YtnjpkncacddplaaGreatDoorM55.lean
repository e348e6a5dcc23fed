/- Texts of this seat's own, merged: each begins with its own remark. -/
import Derived.Test.YtnjpkncacddplaaGreatDoorM53
import Derived.Test.YtnjpkncacddplaaGreatDoorM50
import Derived.Test.YtnjpkncacddplaaGreatDoorM15
import Derived.Test.YtnjpkncacddplaaGreatDoorM17
import Derived.Test.YtnjpkncacddplaaGreatDoorM95
/- Layer 36: the forms of squares, coefficients of series. -/
namespace Go.Proofs.YtnjpkncacddplaaGreatDoor
open Go.Hp
variable {G:World} {U U':UH} {M:MH}
def fu (n:Nat):Nat→Int:=fun k=>if k / n=k % n then 2 else 0
theorem QmQ {n:Nat} (hn:n=2∨n=4):Pdm n (fu n):=fun k h1 h2=>by
 have e:La.det k (fun i j=>((fu n (i*n+j):Int):Rat))=((Lr.det k (fun i j=>fu n (i*n+j)):Int):Rat):=by
  have h:=Fq.hom_q.det k fun i j=>fu n (i*n+j)
  rw [Lr.det_la] at h
  exact h.symm
 rw [e]
 refine Rat.intCast_lt_intCast.2 ?_
 rcases hn with rfl | rfl
 ·rcases show k=1∨k=2 by omega with rfl | rfl<;>decide
 ·rcases show k=1∨k=2∨k=3∨k=4 by omega with rfl | rfl | rfl | rfl<;>decide
theorem QeQ {n:Nat} (hn:n=2∨n=4):chk (n:Int) (n*n) (fu n)=0:=by
 have hp:=QmQ hn
 unfold chk
 rw [Int.toNat_natCast,if_neg (by omega),if_neg (fun h=>h (Int.natCast_mul n n)),if_neg (Classical.not_not.2 (show ∀ k,k < n*n → -1000≤fu n k∧fu n k≤1000 from fun k _=>by unfold fu; split<;>decide)),
  if_neg (Classical.not_not.2 (show Evn n (fu n) by
   rcases hn with rfl | rfl
   ·show ∀ i,i < 2→(∀ k,k < 2→fu 2 (i*2+k)=fu 2 (k*2+i))∧(fu 2 (i*2+i)).tmod 2=0
    decide
   ·show ∀ i,i < 4→(∀ k,k < 4→fu 4 (i*4+k)=fu 4 (k*4+i))∧(fu 4 (i*4+i)).tmod 2=0
    decide)),if_neg (Classical.not_not.2 hp)]
theorem QmS {n i:Nat} {X:Nat→Nat→Rat} (hn:n=2∨n=4) (h:Inv n (fu n) X) (hi:i < n):X i i=1 / 2:=by
 have key:∀ (d x a:Rat),d≠0→d*x=a→x=a / d:=fun d x a h3 e=>by rw [← e,Rat.div_def,Rat.mul_comm d x,Rat.mul_assoc,Rat.mul_inv_cancel _ h3,Rat.mul_one]
 have a:=h.adj i i hi hi
 rcases hn with rfl | rfl
 ·have e1:Lr.det 2 (gz 2 (fu 2))=4:=by decide
  have e2:∀ i,i < 2→Lr.adj 2 (gz 2 (fu 2)) i i=2:=by decide
  rw [e1,e2 i hi] at a
  rw [key _ _ _ (by decide) a]
  decide +kernel
 ·have e1:Lr.det 4 (gz 4 (fu 4))=16:=by decide +kernel
  have e2:∀ i,i < 4→Lr.adj 4 (gz 4 (fu 4)) i i=8:=by decide +kernel
  rw [e1,e2 i hi] at a
  rw [key _ _ _ (by decide) a]
  decide +kernel
theorem QmF {m:Nat} (hm:m≤30):Bx.isq m=Bx.rt m:=by
 have h:∀ m,m < 31→Bx.rt m*Bx.rt m≤m∧m < (Bx.rt m+1)*(Bx.rt m+1):=by decide
 exact (Bx.isq_at (h m (by omega)).1 (h m (by omega)).2).symm
theorem Qnr {n m i:Nat} {X:Nat→Nat→Rat} (hn:n=2∨n=4) (hm:m≤30) (h:Inv n (fu n) X) (hi:i < n):bd X m i=Bx.rt m:=by
 unfold bd
 rw [QmS hn h hi]
 have e:(((2*(m:Int):Int)):Rat)*(1 / 2)=((m:Int):Rat):=by
  rw [Rat.intCast_mul,Rat.mul_comm ((2:Int):Rat),Rat.mul_assoc,show (((2:Int):Rat))*(1 / 2)=1 by decide +kernel,Rat.mul_one]
 rw [e,Rat.floor_intCast,Int.natAbs_natCast,QmF hm]
theorem yh (x:Int):((Bx.sq x:Nat):Int)=x*x:=by unfold Bx.sq; rw [Int.natCast_mul,Int.natAbs_mul_self']
theorem Qnd {x:Nat→Int}:qv 2 (fu 2) x=((Bx.sq (x 0)+Bx.sq (x 1):Nat):Int):=by
 have e:qp 2 (fu 2) x 2=2*(x 0*x 0+x 1*x 1):=by
  show 0+x 0*(0+2*x 0+0*x 1)+x 1*(0+0*x 0+2*x 1)=_
  rw [Int.zero_mul,Int.zero_mul,Int.zero_add,Int.zero_add,Int.zero_add,Int.add_zero,Int.zero_add,Int.mul_add,Int.mul_left_comm (x 0),Int.mul_left_comm (x 1)]
 unfold qv
 rw [e,Int.mul_tdiv_cancel_left _ (by decide),Int.natCast_add,yh,yh]
theorem QlT {x:Nat→Int}:qv 4 (fu 4) x=((Bx.sq (x 0)+Bx.sq (x 1)+(Bx.sq (x 2)+Bx.sq (x 3)):Nat):Int):=by
 have e:qp 4 (fu 4) x 4=2*(x 0*x 0+x 1*x 1+(x 2*x 2+x 3*x 3)):=by
  show 0+x 0*(0+2*x 0+0*x 1+0*x 2+0*x 3)+x 1*(0+0*x 0+2*x 1+0*x 2+0*x 3)+x 2*(0+0*x 0+0*x 1+2*x 2+0*x 3)+x 3*(0+0*x 0+0*x 1+0*x 2+2*x 3)=_
  simp only [Int.zero_mul,Int.zero_add,Int.add_zero,Int.mul_add,Int.mul_left_comm (x 0),Int.mul_left_comm (x 1),Int.mul_left_comm (x 2),Int.mul_left_comm (x 3),Int.add_assoc]
 unfold qv
 rw [e,Int.mul_tdiv_cancel_left _ (by decide),Int.natCast_add,Int.natCast_add,Int.natCast_add,yh,yh,yh,yh]
theorem Qnq {β N q:Nat}:cv 2 (fu 2) (fun _=>β) N q=Bx.cnt N fun k=>Bx.s2 β k == q :=
 Bx.cnt_congr fun k _=>by show ((qv 2 (fu 2) _).toNat == q)=_; rw [Qnd]; rfl
theorem Qmx {β N q:Nat}:cv 4 (fu 4) (fun _=>β) N q=Bx.cnt N fun k=>Bx.s4 β k == q :=
 Bx.cnt_congr fun k _=>by show ((qv 4 (fu 4) _).toNat == q)=_; rw [QlT]; rfl
end Go.Proofs.YtnjpkncacddplaaGreatDoor

/- Walks of layer 36: unit, Prec, Coef. -/
namespace Go.Proofs.YtnjpkncacddplaaGreatDoor
open Go.Hp
variable {G:World} {U U':UH} {M:MH}
end Go.Proofs.YtnjpkncacddplaaGreatDoor

/- Laws of layer 36: squares. -/
namespace Go.Proofs.YtnjpkncacddplaaGreatDoor
open Go.Hp
variable {G:World} {U U':UH} {M:MH}
theorem Vser.up {ok:UH→Value→Rat→Prop} {M':MH} {v:Value} {f:Int} {N:Nat} {g:Nat→Rat} (h:Vser ok U M v f N g) (hk:Kept ok) (hU:ULe U U') (hM:M.Sublist M'):Vser ok U' M' v f N g:=by
 obtain ⟨a,h1,h2⟩:=h
 exact ⟨a,h1,h2.up hk hU hM⟩
def gsq (n' n:Nat):Nat→Rat:=fun q=>(((cv n' (fu n') (fun _=>Bx.rt n) (Bx.pre (fun _=>Bx.rt n) n') q:Nat):Int):Rat)
theorem Qjy {n' n:Nat} (hn:n'=2∨n'=4) (h:n≤30):Bx.pre (fun _=>Bx.rt n) n'≤14641:=by
 have h2:Bx.rt n≤5:=by unfold Bx.rt; split<;>(try split)<;>(try split)<;>(try split)<;>(try split)<;>omega
 have h3:2*Bx.rt n+1≤11:=by omega
 have a1:=Nat.mul_le_mul h3 h3
 rcases hn with rfl | rfl
 ·show 1*(2*Bx.rt n+1)*(2*Bx.rt n+1)≤14641
  rw [Nat.one_mul]; omega
 ·show 1*(2*Bx.rt n+1)*(2*Bx.rt n+1)*(2*Bx.rt n+1)*(2*Bx.rt n+1)≤14641
  rw [Nat.one_mul]
  exact Nat.mul_le_mul (Nat.mul_le_mul a1 h3) h3
theorem Qkj {n' n q:Nat} (hn:n'=2∨n'=4) (h:n≤30):Szq (gsq n' n q) 1:=by
 have h1:=Qjy hn h
 have h2:=cnt_le (fun t=>vn n' (fu n') (fun _=>Bx.rt n) t == q) (Bx.pre (fun _=>Bx.rt n) n')
 refine VT ?_ (by decide)
 unfold Sz cv
 omega
theorem QmI {n' n:Nat} {v:Value} (hn:n'=2∨n'=4) (h:n≤30) (hv:WgtO n' (fu n') (n+1) U v):∃ s r,Skp (gsq n' n) (n+1) s∧v = .tuple #[r,.int .i64 0]∧Vser Vq U [] r (s:Int) (n+1 - s) (fun k=>gsq n' n (s+k)):=by
 obtain ⟨X,hX,h1,-⟩:=hv
 have hb:∀ i,i < n'→bd X (n+1 - 1) i=Bx.rt n:=fun i hi=>Qnr hn h hX hi
 have hp:=Vv (b':=fun _=>Bx.rt n) hb
 rw [hp] at h1
 have hl:=Qjy hn h
 obtain ⟨s,r,h2,h3,h4⟩:=h1 (by omega)
 have he:(fun q=>(((cv n' (fu n') (bd X (n+1 - 1)) (Bx.pre (fun _=>Bx.rt n) n') q:Nat):Int):Rat))=gsq n' n:=funext fun q=>by unfold gsq; rw [Qal hb]
 rw [he] at h2
 refine ⟨s,r,h2,h3,?_⟩
 have he2:(fun k=>(((cv n' (fu n') (bd X (n+1 - 1)) (Bx.pre (fun _=>Bx.rt n) n') (s+k):Nat):Int):Rat))=fun k=>gsq n' n (s+k):=funext fun k=>congrFun he (s+k)
 rw [he2] at h4
 exact h4
end Go.Proofs.YtnjpkncacddplaaGreatDoor
