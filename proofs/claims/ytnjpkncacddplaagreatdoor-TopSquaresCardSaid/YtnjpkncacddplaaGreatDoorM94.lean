/- Texts of this seat's own, merged: each begins with its own remark. -/
import Derived.Test.YtnjpkncacddplaaGreatDoorM62
import Derived.Test.YtnjpkncacddplaaGreatDoorM60
import Derived.Test.YtnjpkncacddplaaGreatDoorM53
import Derived.Test.YtnjpkncacddplaaGreatDoorM50
import Derived.Test.YtnjpkncacddplaaGreatDoorM55
import Derived.Test.YtnjpkncacddplaaGreatDoorM98
import Derived.Test.YtnjpkncacddplaaGreatDoorM92
import Derived.Test.YtnjpkncacddplaaGreatDoorM93
import Derived.Test.YtnjpkncacddplaaGreatDoorM58
/- Laws of layer 36: Sums. -/
namespace Go.Hp
variable {P:Program} {T:TT} {N:Nat} {G:World} {E:Env} {U:UH} {M:MH} {o:Oper}
end Go.Hp
namespace Go.Proofs.YtnjpkncacddplaaGreatDoor
open Go.Hp
open Classical
variable {G:World} {U U':UH} {M:MH}
theorem QkD {n P:Nat} {f:Nat→Int} {X:Nat→Nat→Rat} {v:Value} (h:WgtO n f P U v) (hX:Inv n f X) (hbx:Bx.pre (bd X (P - 1)) n≤1048576) :
  ∃ a,v = .tuple #[.agg #[.int .i64 0,a],.int .i64 0]∧Ls Vq 4 P U [] a (fun q=>(((cv n f (bd X (P - 1)) (Bx.pre (bd X (P - 1)) n) q:Nat):Int):Rat)):=by
 obtain ⟨X1,hX1,h1,-⟩:=h
 have b1:∀ i,i < n→bd X1 (P - 1) i=bd X (P - 1) i:=fun i hi=>Qmc hX1 hX hi
 obtain ⟨s,_,e1,rfl,a,rfl,e3⟩:=h1 (by rw [Vv b1]; exact hbx)
 have hfe:(fun q=>(((cv n f (bd X1 (P - 1)) (Bx.pre (bd X1 (P - 1)) n) q:Nat):Int):Rat))=(fun q=>(((cv n f (bd X (P - 1)) (Bx.pre (bd X (P - 1)) n) q:Nat):Int):Rat)):=funext fun q=>by rw [Vv b1,Qal b1]
 have hfk:∀ s,(fun k=>(((cv n f (bd X1 (P - 1)) (Bx.pre (bd X1 (P - 1)) n) (s+k):Nat):Int):Rat))=(fun k=>(((cv n f (bd X (P - 1)) (Bx.pre (bd X (P - 1)) n) (s+k):Nat):Int):Rat)):=fun s=>funext fun q=>by rw [Vv b1,Qal b1]
 rw [hfe] at e1
 rw [hfk] at e3
 have h0:(((cv n f (bd X (P - 1)) (Bx.pre (bd X (P - 1)) n) 0:Nat):Int):Rat)≠0:=fun h0=>by
  have:=Rat.intCast_inj.1 (h0.trans (show (0:Rat)=((0:Int):Rat) from rfl))
  have:=QjI (n:=n) (f:=f) (b:=bd X (P - 1))
  omega
 obtain rfl:s=0:=e1.uniq ⟨Nat.zero_le P,fun a ha=>absurd ha (Nat.not_lt_zero a),fun _=>h0⟩
 simp only [Nat.sub_zero,Nat.zero_add] at e3
 exact ⟨a,rfl,e3⟩
theorem QfI {n P:Nat} {f:Nat→Int} {b:Nat→Nat}:Skp (fun q=>(((cv n f b (Bx.pre b n) q:Nat):Int):Rat)) P 0 :=
 ⟨Nat.zero_le P,fun a ha=>absurd ha (Nat.not_lt_zero a),fun _ h0=>by
  have:=Rat.intCast_inj.1 (h0.trans (show (0:Rat)=((0:Int):Rat) from rfl))
  have:=QjI (n:=n) (f:=f) (b:=b)
  omega⟩
theorem Qee {F:Nat→Nat}:∀ k,(((Bx.sumn k F:Nat):Int):Rat)=La.sm k fun j=>(((F j:Nat):Int):Rat)
 | 0=>rfl
 | k+1=>by
  show (((Bx.sumn k F+F k:Nat):Int):Rat)=_
  rw [Int.natCast_add,Rat.intCast_add,Qee k]; rfl
end Go.Proofs.YtnjpkncacddplaaGreatDoor

/- Counts of the root form in four variables. Plain. -/
namespace Go.Bx
theorem QdD (m:Nat) (f:Nat→Nat):∀ n,sumn (m+n) f=sumn m f+sumn n fun k=>f (m+k)
 | 0=>rfl
 | n+1=>by
  show sumn (m+n) f+f (m+n)=sumn m f+(sumn n (fun k=>f (m+k))+f (m+n))
  rw [QdD m f n,Nat.add_assoc]
theorem QaI (V:Nat) (f:Nat→Nat→Nat) (hV:0 < V):∀ m,sumn (m*V) (fun k=>f (k / V) (k % V))=sumn m fun q=>sumn V (f q)
 | 0=>by rw [Nat.zero_mul]; rfl
 | m+1=>by
  rw [Nat.add_mul,Nat.one_mul,QdD,QaI V f hV m]
  show _=sumn m _+_
  congr 1
  refine Yd fun k hk=>?_
  rw [Nat.mul_comm,Nat.mul_add_div hV,Nat.mul_add_mod,Nat.div_eq_of_lt hk,Nat.mod_eq_of_lt hk,Nat.add_zero]
def ds (a b:Nat):Nat:=(a - b)*(a - b)+(b - a)*(b - a)
theorem ds_int (a b:Nat):((ds a b:Nat):Int)=((a:Int) - b)*((a:Int) - b):=by
 unfold ds
 rcases Nat.le_total a b with h | h
 ·rw [Nat.sub_eq_zero_of_le h,Nat.zero_mul,Nat.zero_add,Int.natCast_mul,Int.ofNat_sub h,← Int.neg_mul_neg,Int.neg_sub]
 ·rw [Nat.sub_eq_zero_of_le h,Nat.zero_mul,Nat.add_zero,Int.natCast_mul,Int.ofNat_sub h]
def n3 (R t c T acc:Nat):Nat:=bif Nat.blt T acc then 0 else cnt R fun d=>Nat.beq (ds (2*d+c) t+acc) T
def n2 (R t c T acc:Nat):Nat:=bif Nat.blt T acc then 0 else sumn R fun d=>n3 R t c T (ds (2*d+c) t+acc)
def n1 (R t c T acc:Nat):Nat:=bif Nat.blt T acc then 0 else sumn R fun d=>n2 R t c T (ds (2*d+c) t+acc)
def n0 (R S t s T:Nat):Nat:=sumn S fun c=>n1 R t c T (ds c s)
theorem QeC {a b:Nat} (h:Nat.blt a b=true):a < b:=Nat.le_of_ble_eq_true h
theorem Qnx (R t c T acc:Nat):n3 R t c T acc=cnt R fun d=>Nat.beq (ds (2*d+c) t+acc) T:=by
 unfold n3
 cases h:Nat.blt T acc
 ·rfl
 ·have:=QeC h
  rw [cond_true,Vx fun k _=>by
   cases e:Nat.beq (ds (2*k+c) t+acc) T
   ·rfl
   ·have:=Nat.eq_of_beq_eq_true e; omega]
theorem QlZ {R t c T acc:Nat} (h:T < acc):n3 R t c T acc=0:=by
 unfold n3
 rw [show Nat.blt T acc=true from Nat.ble_eq_true_of_le h,cond_true]
theorem Qnv (R t c T acc:Nat):n2 R t c T acc=sumn R fun d=>n3 R t c T (ds (2*d+c) t+acc):=by
 unfold n2
 cases h:Nat.blt T acc
 ·rfl
 ·have:=QeC h
  rw [cond_true,YL fun k _=>QlZ (by omega)]
theorem QkX {R t c T acc:Nat} (h:T < acc):n2 R t c T acc=0:=by
 unfold n2
 rw [show Nat.blt T acc=true from Nat.ble_eq_true_of_le h,cond_true]
theorem QnB (R t c T acc:Nat):n1 R t c T acc=sumn R fun d=>n2 R t c T (ds (2*d+c) t+acc):=by
 unfold n1
 cases h:Nat.blt T acc
 ·rfl
 ·have:=QeC h
  rw [cond_true,YL fun k _=>QkX (by omega)]
theorem root_box {b:Nat→Nat} {r s:Nat} (h0:b 0=r) (h1:b 1=r) (h2:b 2=s) (h3:b 3=r) (F:Nat→Bool) (q:Nat)
  (hF:∀ k,F k=Nat.beq (ds (2*dig b 4 k 3+dig b 4 k 2) (2*r+s)+(ds (2*dig b 4 k 1+dig b 4 k 2) (2*r+s)+(ds (2*dig b 4 k 0+dig b 4 k 2) (2*r+s)+ds (dig b 4 k 2) s))) (4*q)) :
  cnt (all b 4) F=n0 (2*r+1) (2*s+1) (2*r+s) s (4*q):=by
 have hR:0 < 2*r+1:=by omega
 have hS:0 < 2*s+1:=by omega
 generalize hRR:2*r+1=R at *
 generalize hSS:2*s+1=S at *
 have e3:str b 4 3=1:=je rfl
 have e2:str b 4 2=R:=by rw [qm (by omega),e3,h3,hRR,Nat.mul_one]
 have e1:str b 4 1=S*R:=by rw [qm (by omega),e2,h2,hSS]
 have e0:str b 4 0=R*(S*R):=by rw [qm (by omega),e1,h1,hRR]
 have ea:all b 4=((R*R)*S)*R:=by rw [Qap (by omega),e0,h0,hRR]; simp only [Nat.mul_assoc]
 have d3:∀ k,dig b 4 k 3=k % R:=fun k=>by unfold dig; rw [e3,h3,hRR,Nat.div_one]
 have d2:∀ k,dig b 4 k 2=(k / R) % S:=fun k=>by unfold dig; rw [e2,h2,hSS]
 have d1:∀ k,dig b 4 k 1=((k / R) / S) % R:=fun k=>by unfold dig; rw [e1,h1,hRR,Nat.mul_comm S R,Nat.div_div_eq_div_mul]
 have d0:∀ k,k < all b 4→dig b 4 k 0=((k / R) / S) / R:=fun k hk=>by
  unfold dig
  rw [e0,h0,hRR,Nat.div_div_eq_div_mul,Nat.div_div_eq_div_mul]
  refine Nat.mod_eq_of_lt ?_
  rw [Nat.div_lt_iff_lt_mul (Nat.mul_pos hR (Nat.mul_pos hS hR)),← Nat.mul_assoc,← Nat.mul_assoc,← ea]; exact hk
 have step1:cnt (all b 4) F=cnt (R*R*S*R) (fun k=>(fun x y=>Nat.beq (ds (2*y+x % S) (2*r+s)+(ds (2*((x / S) % R)+x % S) (2*r+s)+(ds (2*((x / S) / R)+x % S) (2*r+s)+ds (x % S) s))) (4*q)) (k / R) (k % R)):=by
  rw [← ea]
  exact cnt_congr fun k hk=>by rw [hF,d3,d2,d1,d0 k hk]
 rw [step1,QbH R (fun x y=>Nat.beq (ds (2*y+x % S) (2*r+s)+(ds (2*((x / S) % R)+x % S) (2*r+s)+(ds (2*((x / S) / R)+x % S) (2*r+s)+ds (x % S) s))) (4*q)) hR (R*R*S)]
 have step2:(sumn (R*R*S) fun x=>cnt R ((fun x y=>Nat.beq (ds (2*y+x % S) (2*r+s)+(ds (2*((x / S) % R)+x % S) (2*r+s)+(ds (2*((x / S) / R)+x % S) (2*r+s)+ds (x % S) s))) (4*q)) x)) =
   sumn (R*R*S) fun x=>(fun x c=>n3 R (2*r+s) c (4*q) (ds (2*(x % R)+c) (2*r+s)+(ds (2*(x / R)+c) (2*r+s)+ds c s))) (x / S) (x % S) :=
  Yd fun x _=>(Qnx _ _ _ _ _).symm
 rw [step2,QaI S (fun x c=>n3 R (2*r+s) c (4*q) (ds (2*(x % R)+c) (2*r+s)+(ds (2*(x / R)+c) (2*r+s)+ds c s))) hS (R*R),ym]
 unfold n0
 refine Yd fun c _=>?_
 rw [QnB]
 refine (QaI R (fun x y=>n3 R (2*r+s) c (4*q) (ds (2*y+c) (2*r+s)+(ds (2*x+c) (2*r+s)+ds c s))) hR R).trans ?_
 exact Yd fun x _=>(Qnv _ _ _ _ _).symm
def rt2 (n:Nat):Nat:=if n < 1 then 0 else if n < 2 then 1 else if n < 5 then 2 else if n < 8 then 3 else if n < 13 then 4 else 5
def rt4 (n:Nat):Nat:=if n < 1 then 0 else if n < 2 then 2 else if n < 3 then 2 else if n < 4 then 3 else if n < 7 then 4+(if n < 4 then 0 else 0) else if n < 9 then 5 else if n < 13 then 6 else 7
def r24 (n:Nat):Nat:=([1,24,24,96,24,144,96,192,24,312,144,288,96,336,192,576]:List Nat).getD n 0
def r44 (n:Nat):Nat:=([1,8,24,32,24,48,96,64,24,104,144,96,96,112,192,192]:List Nat).getD n 0
def chkR:Bool:=(List.range 16).all fun q=>Nat.beq (n0 (2*rt2 q+1) (2*rt4 q+1) (2*rt2 q+rt4 q) (rt4 q) (4*q)) (r24 q)
theorem chkR_ok:chkR=true:=by kernel_rfl
def chkF:Bool:=(List.range 16).all fun n=>(List.range (n+1)).all fun q=>Nat.beq (sumn (q+1) fun j=>cnt (all (fun _=>rt n) 2) (fun k=>s2 (rt n) k == j)*cnt (all (fun _=>rt n) 2) (fun r=>s2 (rt n) r == q - j)) (r44 q)
theorem chkF_ok:chkF=true:=by kernel_rfl
end Go.Bx

/- The root form in four variables: its theta series. -/
namespace Go.Proofs.YtnjpkncacddplaaGreatDoor
open Go.Hp
variable {G:World} {U U':UH} {M:MH}
def fr:Nat→Int:=fun k=>([2,0,1,0,0,2,1,0,1,1,2,1,0,0,1,2]:List Int).getD k 0
theorem QiB:Pdm 4 fr:=fun k h1 h2=>by
 have e:La.det k (fun i j=>((fr (i*4+j):Int):Rat))=((Lr.det k (fun i j=>fr (i*4+j)):Int):Rat):=by
  have h:=Fq.hom_q.det k fun i j=>fr (i*4+j)
  rw [Lr.det_la] at h
  exact h.symm
 rw [e]
 refine Rat.intCast_lt_intCast.2 ?_
 rcases show k=1∨k=2∨k=3∨k=4 by omega with rfl | rfl | rfl | rfl<;>decide +kernel
theorem QcJ:Evn 4 fr:=by
 show ∀ i,i < 4→(∀ k,k < 4→fr (i*4+k)=fr (k*4+i))∧(fr (i*4+i)).tmod 2=0
 decide
theorem Qnh:chk (4:Int) 16 fr=0:=by
 have hp:=QiB
 unfold chk
 rw [show ((4:Int)).toNat=4 from rfl,if_neg (by omega),if_neg (fun h=>h rfl),if_neg (Classical.not_not.2 (show ∀ k,k < 16 → -1000≤fr k∧fr k≤1000 by decide)),
  if_neg (Classical.not_not.2 QcJ),if_neg (Classical.not_not.2 hp)]
theorem Qmw {i:Nat} {X:Nat→Nat→Rat} (h:Inv 4 fr X) (hi:i < 4):X i i=if i=2 then 2 else 1:=by
 have key:∀ (d x a:Rat),d≠0→d*x=a→x=a / d:=fun d x a h3 e=>by rw [← e,Rat.div_def,Rat.mul_comm d x,Rat.mul_assoc,Rat.mul_inv_cancel _ h3,Rat.mul_one]
 have a:=h.adj i i hi hi
 have e1:Lr.det 4 (gz 4 fr)=4:=by decide +kernel
 have e2:∀ i,i < 4→Lr.adj 4 (gz 4 fr) i i=if i=2 then 8 else 4:=by decide +kernel
 rw [e1,e2 i hi] at a
 rw [key _ _ _ (by decide) a]
 by_cases e:i=2
 ·rw [if_pos e,if_pos e]; decide +kernel
 ·rw [if_neg e,if_neg e]; decide +kernel
def rr (n i:Nat):Nat:=if i=2 then Bx.rt4 n else Bx.rt2 n
theorem Qet {m i:Nat} {X:Nat→Nat→Rat} (hm:m≤15) (h:Inv 4 fr X) (hi:i < 4):bd X m i=rr m i:=by
 unfold bd rr
 rw [Qmw h hi]
 have t2:∀ m,m < 16→Bx.rt2 m*Bx.rt2 m≤2*m∧2*m < (Bx.rt2 m+1)*(Bx.rt2 m+1):=by decide
 have t4:∀ m,m < 16→Bx.rt4 m*Bx.rt4 m≤4*m∧4*m < (Bx.rt4 m+1)*(Bx.rt4 m+1):=by decide
 by_cases e:i=2
 ·rw [if_pos e,if_pos e]
  have e:(((2*(m:Int):Int)):Rat)*2=(((4*m:Nat):Int):Rat):=by
   rw [show (2:Rat)=((2:Int):Rat) from rfl,← Rat.intCast_mul]
   congr 1
   omega
  rw [e,Rat.floor_intCast,Int.natAbs_natCast]
  exact (Bx.isq_at (t4 m (by omega)).1 (t4 m (by omega)).2).symm
 ·rw [if_neg e,if_neg e]
  have e:(((2*(m:Int):Int)):Rat)*1=(((2*m:Nat):Int):Rat):=by
   rw [Rat.mul_one]
   congr 1
  rw [e,Rat.floor_intCast,Int.natAbs_natCast]
  exact (Bx.isq_at (t2 m (by omega)).1 (t2 m (by omega)).2).symm
theorem QlO {x:Nat→Int}:4*qv 4 fr x=(2*x 3+x 2)*(2*x 3+x 2)+((2*x 1+x 2)*(2*x 1+x 2)+((2*x 0+x 2)*(2*x 0+x 2)+x 2*x 2)):=by
 have e:qp 4 fr x 4=2*(x 0*x 0+x 1*x 1+x 2*x 2+x 3*x 3+x 0*x 2+x 1*x 2+x 2*x 3):=by
  show 0+x 0*(0+2*x 0+0*x 1+1*x 2+0*x 3)+x 1*(0+0*x 0+2*x 1+1*x 2+0*x 3)+x 2*(0+1*x 0+1*x 1+2*x 2+1*x 3)+x 3*(0+0*x 0+0*x 1+1*x 2+2*x 3)=_
  generalize x 0=a
  generalize x 1=b
  generalize x 2=c
  generalize x 3=d
  grind
 unfold qv
 rw [e,Int.mul_tdiv_cancel_left _ (by decide)]
 generalize x 0=a
 generalize x 1=b
 generalize x 2=c
 generalize x 3=d
 grind
theorem Qnu {m q:Nat} {X:Nat→Nat→Rat} (hm:m≤15) (h:Inv 4 fr X) (hq:q≤m):cv 4 fr (bd X m) (Bx.pre (bd X m) 4) q=Bx.r24 q:=by
 obtain ⟨s1,d1,-⟩:=jF QcJ QiB
 have hact:∀ (y:Nat→Int) a,a < 4→act 4 (fun i j=>if i=j then 1 else 0) y a=y a:=fun y a ha=>by
  show 0+y 0*(if 0=a then 1 else 0)+y 1*(if 1=a then 1 else 0)+y 2*(if 2=a then 1 else 0)+y 3*(if 3=a then 1 else 0)=y a
  rcases show a=0∨a=1∨a=2∨a=3 by omega with rfl | rfl | rfl | rfl<;>simp
 have le:∀ {m m':Nat},q≤m→cv 4 fr (bd X m') (Bx.pre (bd X m') 4) q≤cv 4 fr (bd X m) (Bx.pre (bd X m) 4) q:=fun {m m'} hq =>
  QnA (W:=fun i j=>if i=j then 1 else 0) QcJ QcJ s1 d1 d1 h (fun y=>QdJ fun i hi=>(hact y i hi).symm) (fun y y' e i hi=>by rw [← hact y i hi,← hact y' i hi]; exact e i hi) hq
 rw [Nat.le_antisymm (le (m:=q) (m':=m) (Nat.le_refl q)) (le (m:=m) (m':=q) hq)]
 have hb:=fun i hi=>Qet (m:=q) (i:=i) (by omega) h hi
 have hk:=List.all_eq_true.1 Bx.chkR_ok q (List.mem_range.2 (by omega))
 rw [← Nat.eq_of_beq_eq_true hk,← Bx.pre_vol]
 refine Bx.root_box (r:=Bx.rt2 q) (s:=Bx.rt4 q) (hb 0 (by decide)) (hb 1 (by decide)) (hb 2 (by decide)) (hb 3 (by decide)) _ q fun k=>?_
 generalize hr:Bx.rt2 q=r
 generalize hs:Bx.rt4 q=s
 have b0:bd X q 0=r:=(hb 0 (by decide)).trans hr
 have b1:bd X q 1=r:=(hb 1 (by decide)).trans hr
 have b2:bd X q 2=s:=(hb 2 (by decide)).trans hs
 have b3:bd X q 3=r:=(hb 3 (by decide)).trans hr
 have h4:=QlO (x:=Bx.vec (bd X q) 4 k)
 show ((qv 4 fr (Bx.vec (bd X q) 4 k)).toNat == q)=_
 generalize qv 4 fr (Bx.vec (bd X q) 4 k)=V at *
 simp only [Bx.vec,b0,b1,b2,b3] at h4
 generalize Bx.dig (bd X q) 4 k 0=c0 at *
 generalize Bx.dig (bd X q) 4 k 1=c1 at *
 generalize Bx.dig (bd X q) 4 k 2=c2 at *
 generalize Bx.dig (bd X q) 4 k 3=c3 at *
 have dd:∀ x:Nat,((Bx.ds (2*x+c2) (2*r+s):Nat):Int)=(2*((x:Int) - r)+((c2:Int) - s))*(2*((x:Int) - r)+((c2:Int) - s)):=fun x=>by
  rw [Bx.ds_int]
  have:(((2*x+c2:Nat):Int) - ((2*r+s:Nat):Int))=2*((x:Int) - r)+((c2:Int) - s):=by omega
  rw [this]
 have d3:=dd c3
 have d1:=dd c1
 have d0:=dd c0
 have d2:=Bx.ds_int c2 s
 rw [← d3,← d1,← d0,← d2] at h4
 generalize Bx.ds (2*c3+c2) (2*r+s)=w3 at *
 generalize Bx.ds (2*c1+c2) (2*r+s)=w1 at *
 generalize Bx.ds (2*c0+c2) (2*r+s)=w0 at *
 generalize Bx.ds c2 s=w2 at *
 by_cases e:V.toNat=q
 ·rw [beq_iff_eq.2 e]
  have:w3+(w1+(w0+w2))=4*q:=by omega
  rw [this]; simp
 ·have:w3+(w1+(w0+w2))≠4*q:=by omega
  rw [beq_eq_false_iff_ne.2 e,Jr this]
theorem Qnl {n:Nat} {v:Value} (h:n≤15) (hv:WgtO 4 fr (n+1) U v):∃ a,v = .tuple #[.agg #[.int .i64 0,a],.int .i64 0]∧Ls Vq 4 (n+1) U [] a (fun q=>(((Bx.r24 q:Nat):Int):Rat)):=by
 obtain ⟨X,hX,-⟩:=id hv
 have hp:Bx.pre (bd X n) 4≤1048576:=by
  have t2:∀ m,m < 16→Bx.rt2 m≤5∧Bx.rt4 m≤7:=by decide
  have hn:=t2 n (by omega)
  have e0:=Qet (i:=0) h hX (by decide)
  have e1:=Qet (i:=1) h hX (by decide)
  have e2:=Qet (i:=2) h hX (by decide)
  have e3:=Qet (i:=3) h hX (by decide)
  show 1*(2*bd X n 0+1)*(2*bd X n 1+1)*(2*bd X n 2+1)*(2*bd X n 3+1)≤_
  have a0:2*bd X n 0+1≤11:=by rw [e0]; show 2*Bx.rt2 n+1≤11; omega
  have a1:2*bd X n 1+1≤11:=by rw [e1]; show 2*Bx.rt2 n+1≤11; omega
  have a2:2*bd X n 2+1≤15:=by rw [e2]; show 2*Bx.rt4 n+1≤15; omega
  have a3:2*bd X n 3+1≤11:=by rw [e3]; show 2*Bx.rt2 n+1≤11; omega
  have:=Nat.mul_le_mul (Nat.mul_le_mul (Nat.mul_le_mul (Nat.mul_le_mul (Nat.le_refl 1) a0) a1) a2) a3
  omega
 obtain ⟨a,e1,p,c,vs,e2,e3,e4,e5⟩:=QkD hv hX hp
 refine ⟨a,e1,p,c,vs,e2,e3,e4,fun k x hk=>?_⟩
 have hlt:=e4.lt hk
 have:Vq U x (((cv 4 fr (bd X n) (Bx.pre (bd X n) 4) k:Nat):Int):Rat):=e5 k x hk
 rw [Qnu h hX (show k≤n by omega)] at this
 exact this
end Go.Proofs.YtnjpkncacddplaaGreatDoor

/- Walk of series.Scale. -/
namespace Go.Proofs.YtnjpkncacddplaaGreatDoor
open Go.Hp
variable {G:World} {U U':UH} {M:MH}
theorem Qbi {P:Nat} {x:QV} {v:Value} {q:Rat} {g:Nat→Rat} (hx:x.nrm U [] q) (sx:Szq q 1) (hv:Vser Vq U [] v 0 P g) (sg:∀ i,Szq (g i) 1) (kc:Skp (fun k=>q*g k) P 0) (hP:P≤100) :
  Ct Tryz.prog 25 [x.v,v] G U M fun v U' D=>∃ r,v = .tuple #[r,.int .i64 0]∧Vser Vq U' [] r 0 P (fun k=>q*g k)∧D=[]:=by
 obtain ⟨_,rfl,hv⟩:=hv
 obtain ⟨p,c,vs,rfl,hc,rv,ev⟩:=id hv
 refine Qi Tryz.func25 rfl rfl rfl rfl ?_
 repeat (first|refine Qc ?_|refine Qb fun _=>?_|refine w_al fun _=>?_)
 rename_i b2 b3 b4
 refine Qd rfl rfl rfl rfl rfl rfl (fun _=>qQ (ok:=Vq) ⟨_,rfl,hv.up QI uc (List.nil_sublist _)⟩ (by decide) (by decide) (by omega)) ?_
 rintro v U' D hU ⟨rfl,rfl,rfl⟩
 repeat (first|refine Qc ?_|refine Qb fun _=>?_|refine w_al fun _=>?_)
 rw [List.nil_append]
 try refine Qa ?_
 refine Jd (m:=0) (n:=P) sym rfl rfl rfl rfl rfl rfl (by omega) rfl rfl (Nat.zero_le _) (by omega) (by omega) rfl rfl rfl rfl (fun b16=>?_)
 have hrow:=qZ (e:=TR) (s:=4) (b:=b16) (c:=P) (z:=zeroQV.v) rfl (by omega)
 refine Qm (M':=(b4,.var (.agg #[.int .i64 0,.slice none 0 0]),61)::(b3,.var (.agg #[.int .i64 0,.slice p P c]),61)::(b2,.var x.v,TR)::([(b16,.arr (List.replicate P zeroQV.v),TR)]++M)) ?_ pgj
 generalize [(b16,Blk.arr (List.replicate P zeroQV.v),TR)]=D0 at hrow ⊢
 try refine Qa ?_
 try refine Jh (M':=(b4,.var (.agg #[.int .i64 0,.slice none 0 0]),61)::(b3,.var (.agg #[.int .i64 0,.slice p P c]),61)::(b2,.var x.v,TR)::(D0++M)) (ULe.refl _) sbk ?_
 refine Qp (fun z E U' M'=>∃ (k:Nat) (Q:Option Addr) (C:Nat) (us:List Value) (D:MH),k≤P∧RowO TR 4 D Q k C us∧El Vq U' us (fun k=>q*g k)∧E=[(20,.int .i64 (k:Int)),(19,.int .i64 (P:Int)),(18,.slice p P c),(6,.slice Q k C),(2,.pointer (some ⟨b2,0,none⟩)),(3,.pointer (some ⟨b3,0,none⟩)),(4,.pointer (some ⟨b4,0,none⟩)),(5,.int .i64 0)]∧ULe U U'∧M'=(b4,.var (.agg #[.int .i64 0,.slice none 0 0]),61)::(b3,.var (.agg #[.int .i64 0,.slice p P c]),61)::(b2,.var x.v,TR)::(D++M)∧z=P - k) (n0:=P - 0) (E0:=[(20,.int .i64 ((0:Nat):Int)),(19,.int .i64 (P:Int)),(18,.slice p P c),(6,.slice (some ⟨b16,0,none⟩) 0 P),(2,.pointer (some ⟨b2,0,none⟩)),(3,.pointer (some ⟨b3,0,none⟩)),(4,.pointer (some ⟨b4,0,none⟩)),(5,.int .i64 0)]) ⟨rfl,rfl,rfl,rfl,rfl,rfl,rfl,rfl,trivial⟩ ⟨0,some ⟨b16,0,none⟩,P,[],D0,by omega,hrow,El.nil,rfl,uc,rfl,rfl⟩ ?_
 clear hrow
 rintro z E U3 M' ⟨k,Q,C,us,D,hk,hrow,hel,rfl,hU3,rfl,rfl⟩
 try refine Qa ?_
 refine Qk rfl (fun h1=>?_) (fun h1=>?_)
 ·have hkP:k < P:=by omega
  obtain ⟨v1,hv1⟩:=rv.at hkP
  obtain ⟨x1,rfl,hx1⟩:=ev _ _ hv1
  try refine Qa ?_
  refine sl_y (Qg sym rfl rfl rfl rfl rfl rfl ((rv.up uc sb).lt hv1) ((rv.up uc sb).get _ _ hv1).1) rfl rfl rfl rfl ?_; refine sl_y (Qr sym rfl rfl rfl rfl rfl (rv.up uc sb) hv1) rfl rfl rfl rfl ?_
  repeat (first|refine Qc ?_|refine Qb fun _=>?_|refine w_al fun _=>?_)
  rename_i b8
  refine Qd rfl rfl rfl rfl rfl rfl (fun _=>(VL (hx.rep.up uc (List.nil_sublist _)) (hx.le sx (by decide)) (hx1.rep.up uc (List.nil_sublist _)) (hx1.le (sg k) (by decide))).settle) ?_
  rintro v Uh27 D hU ⟨rfl,_,_,⟨xh27,rfl,h27,-⟩,-,-,hs⟩
  replace h27:=h27.sett hs
  clear hs
  repeat (first|refine Qc ?_|refine Qb fun _=>?_|refine w_al fun _=>?_)
  refine yd hrow (X:=(b8,.var x1.v,TR)::(b4,.var (.agg #[.int .i64 0,.slice none 0 0]),61)::(b3,.var (.agg #[.int .i64 0,.slice p P c]),61)::(b2,.var x.v,TR)::M) pgj (fun b P2 C2 D2 hr2=>?_)
  refine Qm (M':=(b8,.var x1.v,TR)::(b4,.var (.agg #[.int .i64 0,.slice none 0 0]),61)::(b3,.var (.agg #[.int .i64 0,.slice p P c]),61)::(b2,.var x.v,TR)::(D2++M)) ?_ pgj
  try refine Qa ?_
  refine VM (M':=(b4,.var (.agg #[.int .i64 0,.slice none 0 0]),61)::(b3,.var (.agg #[.int .i64 0,.slice p P c]),61)::(b2,.var x.v,TR)::(D2++M)) (ULe.refl _) sbk ?_
  exact Qj (E':=[(20,.int .i64 ((k:Int)+1)),(19,.int .i64 (P:Int)),(18,.slice p P c),(6,.slice P2 (k+1) C2),(2,.pointer (some ⟨b2,0,none⟩)),(3,.pointer (some ⟨b3,0,none⟩)),(4,.pointer (some ⟨b4,0,none⟩)),(5,.int .i64 0)]) (m:=P - (k+1)) ⟨rfl,rfl,rfl,rfl,rfl,rfl,rfl,rfl,trivial⟩ (by omega) ⟨k+1,P2,C2,_,D2,by omega,hr2,qC hrow.len.1 (hel.up QI uc) ⟨xh27,rfl,h27⟩,rfl,uc,rfl,rfl⟩
 ·obtain rfl:P=k:=by omega
  have hser:Ls (Wq 1000) 4 P U3 ((b4,.var (.agg #[.int .i64 0,.slice none 0 0]),61)::(b3,.var (.agg #[.int .i64 0,.slice p P c]),61)::(b2,.var x.v,TR)::(D++M)) (.slice Q P C) (fun k=>q*g k):=ls_w ⟨_,_,us,rfl,hrow.len.2.1,hrow.at sb,hel⟩ fun i hi=>(sx.mul (sg i)).mono (by omega)
  repeat (first|refine Qc ?_|refine Qb fun _=>?_|refine w_al fun _=>?_)
  refine Qd rfl rfl rfl rfl rfl rfl (fun _=>yf (f:=0) (hser.up Vh uc sb) (by decide) (by decide) (by omega) (by decide) (by decide)) ?_
  rintro v34 U34 D hU34 ⟨s,r,hs,rfl,hvs,rfl⟩
  rw [show min P (1000 - (0:Int)).toNat=P by omega] at hs hvs
  obtain rfl:=hs.uniq kc
  simp only [Nat.sub_zero,Nat.zero_add] at hvs
  obtain ⟨_,rfl,hvs⟩:=hvs
  obtain ⟨pv,cv',us',rfl,-⟩:=id hvs
  rw [List.nil_append]
  repeat (first|refine Qc ?_|refine Qb fun _=>?_|refine w_al fun _=>?_)
  exact Qf [] sym rfl (.cons (.cell 0 rfl rfl rfl) (.cons (.tmp rfl) .nil)) uc sb (.inl rfl) ⟨_,rfl,⟨_,rfl,hvs⟩,rfl⟩
end Go.Proofs.YtnjpkncacddplaaGreatDoor

/- What a call of numbers hands over, read as a series. No condition. -/
namespace Go.Gx
open Go.Hp Go.Proofs.YtnjpkncacddplaaGreatDoor
variable {G:World} {U U' U1:UH} {M D:MH} {φ:Phi}
theorem QcE:∀ {bl:List GB} {k i:Nat} {g:GB} {D:MH},MemR φ (num k bl) D→nth bl i=some g→∃ d xs,φ.l[k+i]?=some d∧dens φ g.cells=some xs∧InvB d g xs∧ent d g xs ∈ D
 | [],_,_,_,_,_,h=>by cases h
 | b::r,k,0,g,D,⟨d,xs,M',h1,h2,h3,h4,_⟩,h=>by
  simp only [nth,Option.some.injEq] at h
  subst h h4
  exact ⟨d,xs,h1,h2,h3,List.mem_cons_self ..⟩
 | b::r,k,i+1,g,D,⟨d,xs,M',h1,h2,h3,h4,h5⟩,h=>by
  subst h4
  obtain ⟨d',xs',g1,g2,g3,g4⟩:=QcE h5 (show nth r i=some g from h)
  exact ⟨d',xs',by rw [← g1]; congr 1; omega,g2,g3,List.mem_cons_of_mem _ g4⟩
theorem QfT {d:Lv} {g:GB} {xs:List Value} (hs:Sett U1 U' D) (he:ent d g xs ∈ D) {o:Nat} {v:Value} (h:nth xs o=some v):U'.cell? ⟨d.b,o,none⟩=some v:=by
 have h1:=(hs _ he).1
 have h1:U' d.b=some (.cells (xs++d.pad).toArray g.ty (0,0)):=h1
 simp only [UH.cell?,h1]
 have h2:=Qcw (r:=d.pad) h
 rw [QP] at h2
 simpa using h2
def digsC:List C→Option (List Nat)
 | []=>some []
 | .it k z::r=>bif kEq k .u32 && Int.ble' 0 z && Nat.blt z.toNat 4294967296 then (match digsC r with
  | some l=>some (z.toNat::l)
  | none=>none) else none
 | _=>none
where
 Int.ble' (a b:Int):Bool:=decide (a≤b)
theorem Qen:∀ {cs:List C} {l:List Nat} {xs:List Value},digsC cs=some l→dens φ cs=some xs→Bd l∧l.length=cs.length∧∀ (k d:Nat),l[k]?=some d→nth xs k=some (.int .u32 (d:Int))
 | [],l,xs,h,_=>by
  simp only [digsC,Option.some.injEq] at h
  subst h
  exact ⟨fun d hd=>(by cases hd),rfl,fun k d hk=>(by simp at hk)⟩
 | c::r,l,xs,h,hx=>by
  unfold digsC at h
  split at h
  ·rename_i h0; cases h0
  ·rename_i k z r' he
   simp only [List.cons.injEq] at he
   obtain ⟨rfl,rfl⟩:=he
   cases hb:(kEq k .u32 && digsC.Int.ble' 0 z && Nat.blt z.toNat 4294967296)
   ·rw [hb] at h; cases h
   ·rw [hb,cond_true] at h
    simp only [Bool.and_eq_true,digsC.Int.ble',decide_eq_true_eq] at hb
    obtain ⟨⟨hk,hz⟩,hlt⟩:=hb
    obtain rfl:=VP hk
    have hlt':=Nat.le_of_ble_eq_true hlt
    split at h
    ·rename_i l' hl'
     simp only [Option.some.injEq] at h
     subst h
     obtain ⟨u,us,h1,h2,rfl⟩:=JO hx
     obtain rfl:=Jq h1
     obtain ⟨g1,g2,g3⟩:=Qen hl' h2
     refine ⟨fun d hd=>?_,by simp [g2],fun k d hk=>?_⟩
     ·rcases List.mem_cons.1 hd with rfl | hd
      ·omega
      ·exact g1 d hd
     ·cases k with
      | zero =>
       simp only [List.getElem?_cons_zero,Option.some.injEq] at hk
       subst hk
       show some _=some _
       rw [Int.toNat_of_nonneg hz]
      | succ k=>exact g3 k d (by simpa using hk)
    ·cases h
  ·cases h
def dig0:List Nat→List Nat→Bool
 | [],[]=>true
 | a::r,b::s=>Nat.beq a b && dig0 r s
 | _,_=>false
theorem Qgq:∀ {a b:List Nat},dig0 a b=true→a=b
 | [],[],_=>rfl
 | a::r,b::s,h=>by
  simp only [dig0,Bool.and_eq_true] at h
  rw [Nat.eq_of_beq_eq_true h.1,Qgq h.2]
 | [],_::_,h=>by cases h
 | _::_,[],h=>by cases h
def ivC (bl:List GB):C→C→Option Int
 | .bo b,.sl l o j n=>(match nth bl l with
  | some g=>bif Nat.beq o 0 && Nat.beq j 0 && Nat.beq g.sz 1 && Nat.ble n g.cells.length then (match digsC (g.cells.take n) with
   | some ds=>bif dig0 (tl ds) ds && !Nat.beq (val ds) 0 then some (sg b (val ds)) else none
   | none=>none) else none
  | none=>none)
 | .bo b,.sn=>bif b then none else some 0
 | _,_=>none
theorem QiE {ds:List Lv} {bl:List GB} (hm:MemR ⟨ds,[]⟩ (num 0 bl) D) (hs:Sett U1 U' D) {a b:C} {z:Int} (h:ivC bl a b=some z) {va vb:Value} (ha:a.den ⟨ds,[]⟩=some va) (hb:b.den ⟨ds,[]⟩=some vb) :
  ∃ x:IV,va = .bool x.neg∧vb = .slice x.p x.n x.c∧x.nrm U' [] z:=by
 unfold ivC at h
 split at h
 ·rename_i s l o j n
  split at h
  ·rename_i g hg
   cases hc:(Nat.beq o 0 && Nat.beq j 0 && Nat.beq g.sz 1 && Nat.ble n g.cells.length)
   ·rw [hc] at h; cases h
   rw [hc,cond_true] at h
   simp only [Bool.and_eq_true] at hc
   obtain ⟨⟨⟨h1,h2⟩,h3⟩,h4⟩:=hc
   obtain rfl:=Nat.eq_of_beq_eq_true h1
   obtain rfl:=Nat.eq_of_beq_eq_true h2
   have hsz:=Nat.eq_of_beq_eq_true h3
   have hn:=Nat.le_of_ble_eq_true h4
   split at h
   ·rename_i dl hdl
    cases hc2:(dig0 (tl dl) dl && !Nat.beq (val dl) 0)
    ·rw [hc2] at h; cases h
    rw [hc2,cond_true,Option.some.injEq] at h
    simp only [Bool.and_eq_true,Bool.not_eq_true'] at hc2
    obtain ⟨h5,h6⟩:=hc2
    have htl:=Qgq h5
    have hv:val dl≠0:=fun e=>by rw [e] at h6; cases h6
    obtain ⟨d,xs,g1,g2,g3,g4⟩:=QcE hm hg
    rw [Nat.zero_add] at g1
    obtain ⟨d',hd',rfl⟩:=qy hb
    have hdd:d'=d:=by
     have h9:ds[l]?=some d:=g1
     have h10:ds[l]?=some d':=hd'
     rw [h9] at h10
     exact (Option.some.inj h10).symm
    subst hdd
    obtain ⟨q1,q2,q3⟩:=Qen hdl (YJ n g2)
    have hlen:=Jo g2
    have hcap:=g3.2 (by rw [hsz]; decide)
    rw [hsz,Nat.mul_one] at hcap
    have ho:=g3.1
    cases ha
    refine ⟨⟨s,some ⟨d'.b,d'.o+0,none⟩,n,d'.c - 0⟩,rfl,rfl,dl,⟨?_,?_,?_,q1,fun k x hk=>⟨rfl,fun G w hw=>?_⟩⟩,⟨q1,htl⟩,?_,?_⟩
    ·show dl.length=n; rw [q2,List.length_take]; omega
    ·show n≤d'.c - 0; omega
    ·show d'.c - 0≤_; omega
    ·have hx:=q3 k x hk
     simp only [elt,Option.getD_some,QO]
     rw [ho]
     simp only [Nat.zero_add]
     refine hw.cellU (QfT hs g4 ?_)
     rw [QP] at hx ⊢
     rw [List.getElem?_take] at hx
     split at hx
     ·exact hx
     ·cases hx
    ·rw [← h]; cases s<;>simp [sg]
    ·rw [← h]
     cases s
     ·simp [sg]
     ·have:0 < val dl:=by omega
      simp only [sg,if_true]
      rw [eq_comm,decide_eq_true_eq]; omega
   ·cases h
  ·cases h
 ·rename_i s
  cases s
  ·cases h
   cases ha
   cases hb
   exact ⟨⟨false,none,0,0⟩,rfl,rfl,[],⟨rfl,Nat.le_refl _,Nat.zero_le _,fun d hd=>(by cases hd),fun k d hk=>by simp at hk⟩,.nil,rfl,rfl⟩
  ·cases h
 ·cases h
def qvC (bl:List GB) (a b c d:C) (q:Rat):Bool:=(match ivC bl a b with
 | some z=>decide (z=q.num)
 | none=>false) && (match ivC bl c d with
 | some z=>decide (z=(q.den:Int))
 | none=>false)
theorem QmC {ds:List Lv} {bl:List GB} (hm:MemR ⟨ds,[]⟩ (num 0 bl) D) (hs:Sett U1 U' D) {a b c d:C} {q:Rat} (h:qvC bl a b c d q=true) {va vb vc vd:Value} (ha:a.den ⟨ds,[]⟩=some va) (hb:b.den ⟨ds,[]⟩=some vb) (hc:c.den ⟨ds,[]⟩=some vc) (hd:d.den ⟨ds,[]⟩=some vd) :
  ∃ x:QV,x.v = .agg #[va,vb,vc,vd]∧x.nrm U' [] q:=by
 simp only [qvC,Bool.and_eq_true] at h
 obtain ⟨h1,h2⟩:=h
 split at h1
 ·rename_i z hz
  obtain rfl:=of_decide_eq_true h1
  split at h2
  ·rename_i z' hz'
   obtain rfl:=of_decide_eq_true h2
   obtain ⟨x,rfl,rfl,h5⟩:=QiE hm hs hz ha hb
   obtain ⟨y,rfl,rfl,h6⟩:=QiE hm hs hz' hc hd
   exact ⟨⟨x,y⟩,rfl,h5,h6⟩
  ·cases h2
 ·cases h1
def rowC (bl:List GB) (g:Nat→Rat):Nat→Nat→List C→Bool
 | 0,_,_=>true
 | n+1,k,a::b::c::d::r=>qvC bl a b c d (g k) && rowC bl g n (k+1) r
 | _+1,_,_=>false
theorem Qgg {ds:List Lv} {bl:List GB} (hm:MemR ⟨ds,[]⟩ (num 0 bl) D) (hs:Sett U1 U' D) {g:Nat→Rat}:∀ {n k:Nat} {cs:List C} {xs:List Value},rowC bl g n k cs=true→dens ⟨ds,[]⟩ cs=some xs →
  ∃ vs:List Value,vs.length=n∧(∀ i v,vs[i]?=some v→∃ x:QV,v=x.v∧x.nrm U' [] (g (k+i)))∧(∀ i v,vs[i]?=some v→∀ j y,v.cells.toList[j]?=some y→nth xs (i*4+j)=some y)∧n*4≤xs.length
 | 0,_,_,_,_,_=>⟨[],rfl,fun i v h=>by simp at h,fun i v h=>by simp at h,by omega⟩
 | n+1,k,[],_,h,_=>by cases h
 | n+1,k,[_],_,h,_=>by cases h
 | n+1,k,[_,_],_,h,_=>by cases h
 | n+1,k,[_,_,_],_,h,_=>by cases h
 | n+1,k,a::b::c::d::r,xs,h,hx=>by
  simp only [rowC,Bool.and_eq_true] at h
  obtain ⟨va,xa,a1,ha,rfl⟩:=JO hx
  obtain ⟨vb,xb,b1,hb,rfl⟩:=JO ha
  obtain ⟨vc,xc,c1,hc,rfl⟩:=JO hb
  obtain ⟨vd,xs,d1,hd,rfl⟩:=JO hc
  obtain ⟨x,hxv,hxn⟩:=QmC hm hs h.1 a1 b1 c1 d1
  obtain ⟨vs,g1,g2,g3,g4⟩:=Qgg hm hs h.2 hd
  refine ⟨x.v::vs,by simp [g1],fun i v hv=>?_,fun i v hv j y hy=>?_,by simp only [List.length_cons]; omega⟩
  ·cases i with
   | zero=>simp only [List.getElem?_cons_zero,Option.some.injEq] at hv; subst hv; exact ⟨x,rfl,hxn⟩
   | succ i =>
    obtain ⟨x',e1,e2⟩:=g2 i v (by simpa using hv)
    exact ⟨x',e1,by rw [show k+(i+1)=k+1+i by omega]; exact e2⟩
  ·cases i with
   | zero =>
    simp only [List.getElem?_cons_zero,Option.some.injEq] at hv
    subst hv
    rw [hxv] at hy
    rw [Nat.zero_mul,Nat.zero_add,QP]
    have hj:j < 4:=by
     have:=(List.getElem?_eq_some_iff.1 hy).1
     simpa [Value.cells] using this
    have h4:([va,vb,vc,vd]:List Value)[j]?=some y:=by simpa [Value.cells] using hy
    rw [show va::vb::vc::vd::xs=[va,vb,vc,vd]++xs from rfl,List.getElem?_append_left (by simpa using hj)]
    exact h4
   | succ i =>
    have:=g3 i v (by simpa using hv) j y hy
    rw [show (i+1)*4+j=(i*4+j)+4 by omega]
    exact this
def serC (t:Ran) (P:Nat) (g:Nat→Rat):Bool:=match t.r with
 | .tup [.agg [.it k f,.sl l o j n],.one (.it k' e)]=>kEq k .i64 && decide (f=0) && Nat.beq o 0 && Nat.beq j 0 && Nat.beq n P && kEq k' .i64 && decide (e=0) && (match nth t.bl l with
  | some b=>Nat.beq b.sz 4 && rowC t.bl g P 0 b.cells
  | none=>false)
 | _=>false
theorem QR {P:Program} {t:Ran} (hL:RanOK P U t) {ys:List Value} (hy:gdens ⟨[],[]⟩ t.args=some ys) {N:Nat} {g:Nat→Rat} (h:serC t N g=true):Ct P t.f ys G U M fun v U' D=>∃ r,v = .tuple #[r,.int .i64 0]∧Vser Vq U' [] r 0 N g∧D=[]:=by
 refine ⟨hL.ca,fun w hw=>(hL.ok ys hy G M w hw).mono ?_⟩
 rintro e w' ⟨v,ds,J,D,rfl,h1,h2,h3,h4⟩
 obtain ⟨U2,u1,u2,u3⟩:=Yx h4
 unfold serC at h
 split at h
 ·rename_i k f l o j n k' e hr
  simp only [Bool.and_eq_true,decide_eq_true_eq] at h
  obtain ⟨⟨⟨⟨⟨⟨⟨c1,rfl⟩,c2⟩,c3⟩,c4⟩,c5⟩,rfl⟩,c6⟩:=h
  obtain rfl:=VP c1
  obtain rfl:=VP c5
  obtain rfl:=Nat.eq_of_beq_eq_true c2
  obtain rfl:=Nat.eq_of_beq_eq_true c3
  obtain rfl:=Nat.eq_of_beq_eq_true c4
  split at c6
  ·rename_i b hb
   simp only [Bool.and_eq_true] at c6
   have hsz:=Nat.eq_of_beq_eq_true c6.1
   obtain ⟨d,xs,g1,g2,g3,g4⟩:=QcE h3 hb
   rw [Nat.zero_add] at g1
   obtain ⟨vs,q1,q2,q3,q4⟩:=Qgg h3 u3 c6.2 g2
   have hcap:=g3.2 (by rw [hsz]; decide)
   rw [hsz] at hcap
   have ho:=g3.1
   rw [hr] at h1
   have hg1:ds[l]?=some d:=g1
   simp only [SV.den,gdens,GV.den,dens,C.den,hg1,Option.some.injEq] at h1
   refine ⟨v,U2,[],rfl,u1,u2.anti (ULe.refl _) (by rw [List.nil_append]; exact List.sublist_append_right _ _),_,h1.symm,⟨_,rfl,_,_,vs,rfl,by omega,⟨q1,fun v hv=>?_,fun i v hv=>⟨rfl,fun j y hy G w hw=>?_⟩⟩,fun i v hv=>?_⟩,rfl⟩
   ·obtain ⟨i,hi⟩:=List.mem_iff_getElem?.1 hv
    obtain ⟨x,rfl,-⟩:=q2 i v hi
    rfl
   ·simp only [elt,Option.getD_some,QO]
    rw [ho]
    simp only [Nat.zero_add]
    exact hw.cellU (QfT u3 g4 (q3 i v hv j y hy))
   ·obtain ⟨x,e1,e2⟩:=q2 i v hv
    rw [Nat.zero_add] at e2
    exact ⟨x,e1,e2⟩
  ·cases c6
 ·cases h
end Go.Gx

/- eisenstein.Real(2, 1, 1, 2 | 4, 1 .. 16), read as series; twelve, run. No condition. -/
namespace Go.Proofs.YtnjpkncacddplaaGreatDoor
open Go.Hp Go.Gx
variable {G:World} {U:UH} {M:MH}
def eis (l:Nat) (q:Nat):Rat:=if l=4 then (((Bx.r44 q:Nat):Int):Rat) / 8 else (((Bx.r24 q:Nat):Int):Rat) / 24
theorem Qgm (hQ:TabOK Tryz.prog tys tb U) {l P:Nat} (hl:l=2∨l=4) (h1:1≤P) (hP:P≤16) :
  Ct Tryz.prog 23 [.int .i64 2,.int .i64 1,.int .i64 1,.int .i64 (l:Int),.int .i64 (P:Int)] G U M fun v U' D=>∃ r,v = .tuple #[r,.int .i64 0]∧Vser Vq U' [] r 0 P (eis l)∧D=[]:=by
 have hp:P=1∨P=2∨P=3∨P=4∨P=5∨P=6∨P=7∨P=8∨P=9∨P=10∨P=11∨P=12∨P=13∨P=14∨P=15∨P=16:=by omega
 rcases hl with rfl | rfl
 ·rcases hp with rfl | rfl | rfl | rfl | rfl | rfl | rfl | rfl | rfl | rfl | rfl | rfl | rfl | rfl | rfl | rfl
  ·exact QR (QeV hQ) rfl (by kernel_rfl)
  ·exact QR (Qfl hQ) rfl (by kernel_rfl)
  ·exact QR (QfF hQ) rfl (by kernel_rfl)
  ·exact QR (QeZ hQ) rfl (by kernel_rfl)
  ·exact QR (Qfc hQ) rfl (by kernel_rfl)
  ·exact QR (Qfv hQ) rfl (by kernel_rfl)
  ·exact QR (Qfh hQ) rfl (by kernel_rfl)
  ·exact QR (Qfz hQ) rfl (by kernel_rfl)
  ·exact QR (Qfx hQ) rfl (by kernel_rfl)
  ·exact QR (Qdx hQ) rfl (by kernel_rfl)
  ·exact QR (QdB hQ) rfl (by kernel_rfl)
  ·exact QR (QdU hQ) rfl (by kernel_rfl)
  ·exact QR (QdN hQ) rfl (by kernel_rfl)
  ·exact QR (Qev hQ) rfl (by kernel_rfl)
  ·exact QR (QdK hQ) rfl (by kernel_rfl)
  ·exact QR (Qeo hQ) rfl (by kernel_rfl)
 ·rcases hp with rfl | rfl | rfl | rfl | rfl | rfl | rfl | rfl | rfl | rfl | rfl | rfl | rfl | rfl | rfl | rfl
  ·exact QR (Qfa hQ) rfl (by kernel_rfl)
  ·exact QR (QeH hQ) rfl (by kernel_rfl)
  ·exact QR (Qfw hQ) rfl (by kernel_rfl)
  ·exact QR (Qfk hQ) rfl (by kernel_rfl)
  ·exact QR (Qfi hQ) rfl (by kernel_rfl)
  ·exact QR (QeB hQ) rfl (by kernel_rfl)
  ·exact QR (Qfd hQ) rfl (by kernel_rfl)
  ·exact QR (QeI hQ) rfl (by kernel_rfl)
  ·exact QR (QfB hQ) rfl (by kernel_rfl)
  ·exact QR (Qdu hQ) rfl (by kernel_rfl)
  ·exact QR (QcY hQ) rfl (by kernel_rfl)
  ·exact QR (QdC hQ) rfl (by kernel_rfl)
  ·exact QR (Qez hQ) rfl (by kernel_rfl)
  ·exact QR (Qeq hQ) rfl (by kernel_rfl)
  ·exact QR (QcW hQ) rfl (by kernel_rfl)
  ·exact QR (Qdn hQ) rfl (by kernel_rfl)
set_option maxRecDepth 100000 in
theorem QfE:isTrue (runK fnT noCall tb 10000 100 20 [])=true:=by kernel_rfl
theorem yg (hQ:TabOK Tryz.prog tys tb U):Ct Tryz.prog 20 [] G U M fun v U' _=>U'=U∧v = .bool true:=QhI hQ fnOK yn QfE rfl
end Go.Proofs.YtnjpkncacddplaaGreatDoor

/- The law TopSquares: what the series are. -/
namespace Go.Proofs.YtnjpkncacddplaaGreatDoor
open Go.Hp Go.Gx
variable {G:World} {U U':UH} {M:MH}
def A2n (n q:Nat):Nat:=Bx.cnt (Bx.all (fun _=>Bx.rt n) 2) fun k=>Bx.s2 (Bx.rt n) k == q
theorem Qea {n q:Nat}:gsq 2 n q=(((A2n n q:Nat):Int):Rat):=by
 unfold gsq A2n
 rw [Qnq,← Bx.pre_vol]
theorem Qbe {n q:Nat} (hq:q≤n) (hn:n≤15):(Bx.sumn (q+1) fun j=>A2n n j*A2n n (q - j))=Bx.r44 q:=by
 have h1:=List.all_eq_true.1 Bx.chkF_ok n (List.mem_range.2 (by omega))
 exact Nat.eq_of_beq_eq_true (List.all_eq_true.1 h1 q (List.mem_range.2 (by omega)))
theorem Qbs {n q:Nat} (hq:q≤n) (hn:n≤15):gsq 4 n q=(((Bx.r44 q:Nat):Int):Rat):=by
 unfold gsq
 rw [Qmx,← Bx.pre_vol,Bx.cnt_four,← Qbe hq hn]
 rfl
theorem Qgh {n q:Nat} (hq:q≤n) (hn:n≤15):cnv (gsq 2 n) (gsq 2 n) q=(((Bx.r44 q:Nat):Int):Rat):=by
 rw [← Qbe hq hn,Qee]
 unfold cnv cnvp
 refine La.sm_congr fun t _=>?_
 rw [Qea,Qea,← Rat.intCast_mul,← Int.natCast_mul]
theorem Qil {n' n:Nat} {v:Value} (hn:n'=2∨n'=4) (h:n≤15) (hv:WgtO n' (fu n') (n+1) U v):∃ a,v = .tuple #[.agg #[.int .i64 0,a],.int .i64 0]∧Ls Vq 4 (n+1) U [] a (gsq n' n):=by
 obtain ⟨s,r,h1,rfl,a,rfl,h3⟩:=QmI hn (by omega) hv
 obtain rfl:=h1.uniq (t:=0) QfI
 simp only [Nat.sub_zero,Nat.zero_add] at h3
 exact ⟨a,rfl,h3⟩
end Go.Proofs.YtnjpkncacddplaaGreatDoor

/- The law TopSquares: the walk. -/
namespace Go.Proofs.YtnjpkncacddplaaGreatDoor
open Go.Hp Go.Gx
variable {G:World} {U U':UH} {M:MH}
theorem Qnb:∀ k,k < 16→sgc 4 2 2 (fu 2) (fu 2) 2 2 k=fu 4 k:=by decide
theorem esum0:esum (2:Int) 4 (fu 2) (2:Int) 4 (fu 2)=0:=by
 have h:=QeQ (n:=2) (.inl rfl)
 have h:chk (2:Int) 4 (fu 2)=0:=h
 unfold esum
 rw [if_neg (fun e=>e h),if_neg (fun e=>e h),if_neg (by decide)]
theorem Qlm {n:Nat} (hn:n≤15):Skp (cnv (gsq 2 n) (gsq 2 n)) (n+1) 0 :=
 ⟨Nat.zero_le _,fun a ha=>absurd ha (Nat.not_lt_zero a),fun _=>by rw [Qgh (Nat.zero_le n) hn]; decide⟩
theorem QjN (l i:Nat):Szq (eis l i) 1:=by
 have h:∀ i,i < 16→Szq (((Bx.r44 i:Nat):Int) / 8:Rat) 1∧Szq (((Bx.r24 i:Nat):Int) / 24:Rat) 1:=by
  unfold Szq Sz
  decide +kernel
 have h2:Szq (((Bx.r44 i:Nat):Int) / 8:Rat) 1∧Szq (((Bx.r24 i:Nat):Int) / 24:Rat) 1:=by
  by_cases hi:i < 16
  ·exact h i hi
  ·have e1:Bx.r44 i=0:=by
    unfold Bx.r44
    rw [List.getD_eq_getElem?_getD,List.getElem?_eq_none (by simp; omega)]; rfl
   have e2:Bx.r24 i=0:=by
    unfold Bx.r24
    rw [List.getD_eq_getElem?_getD,List.getElem?_eq_none (by simp; omega)]; rfl
   rw [e1,e2]
   unfold Szq Sz
   decide +kernel
 unfold eis
 split
 ·exact h2.1
 ·exact h2.2
theorem Qcc {l:Nat} {c:Int} {i:Nat} (h:(l=2∧c=24)∨(l=4∧c=8)):(c:Rat)*eis l i=if l=4 then (((Bx.r44 i:Nat):Int):Rat) else (((Bx.r24 i:Nat):Int):Rat):=by
 have key:∀ (c x:Rat),c≠0→c*(x / c)=x:=fun c x hc=>by rw [Rat.div_def,Rat.mul_comm x,← Rat.mul_assoc,Rat.mul_inv_cancel _ hc,Rat.one_mul]
 rcases h with ⟨rfl,rfl⟩ | ⟨rfl,rfl⟩
 ·unfold eis
  rw [if_neg (by decide),if_neg (by decide)]
  exact key 24 _ (by decide)
 ·unfold eis
  rw [if_pos rfl,if_pos rfl]
  exact key 8 _ (by decide)
theorem Qgt {l n:Nat} {c:Int} (h:(l=2∧c=24)∨(l=4∧c=8)):Skp (fun k=>(c:Rat)*eis l k) (n+1) 0 :=
 ⟨Nat.zero_le _,fun a ha=>absurd ha (Nat.not_lt_zero a),fun _=>by
  show (c:Rat)*eis l 0≠0
  rw [Qcc h]
  split<;>decide⟩
set_option maxHeartbeats 8000000 in
theorem QaR {prec:Int} (hQ:TabOK Tryz.prog tys tb U) (h64 : -9223372036854775808≤prec∧prec≤9223372036854775807) :
  Ct Tryz.prog 5 [.int .i64 prec] G U M fun v _ _=>v = .bool true:=by
 by_cases hin:prec < 1∨16 < prec
 ·refine Qi Tryz.func5 rfl rfl rfl rfl ?_
  repeat (first|refine Qc ?_|refine Qb fun _=>?_|refine w_al fun _=>?_)
  refine QB rfl rfl (fun h1=>?_) (fun h1=>?_)
  ·repeat (first|refine Qc ?_|refine Qb fun _=>?_|refine w_al fun _=>?_)
   refine Qd rfl rfl rfl rfl rfl rfl (fun _=>yg (TabOK.more hQ uc)) ?_
   rintro v1 U1 D1 hU1 ⟨rfl,rfl⟩
   try refine Qa ?_
   exact Qf D1 sym rfl (.cons (.tmp rfl) .nil) uc (List.Sublist.refl _) (.inl rfl) rfl
  ·repeat (first|refine Qc ?_|refine Qb fun _=>?_|refine w_al fun _=>?_)
   refine Qk rfl (fun h=>?_) (fun h=>absurd hin (by omega))
   repeat (first|refine Qc ?_|refine Qb fun _=>?_|refine w_al fun _=>?_)
   refine Qd rfl rfl rfl rfl rfl rfl (fun _=>yg (TabOK.more hQ uc)) ?_
   rintro v1 U1 D1 hU1 ⟨rfl,rfl⟩
   try refine Qa ?_
   exact Qf D1 sym rfl (.cons (.tmp rfl) .nil) uc (List.Sublist.refl _) (.inl rfl) rfl
 ·obtain ⟨n,rfl⟩:∃ n:Nat,prec=((n+1:Nat):Int):=⟨(prec - 1).toNat,by omega⟩
  have hn:n≤15:=by omega
  have rng:∀ l:List Int,(l.all fun z=>decide (-9223372036854775808≤z∧z≤9223372036854775807))=true→∀ z ∈ l,-9223372036854775808≤z∧z≤9223372036854775807:=fun l h z hz=>of_decide_eq_true (List.all_eq_true.1 h z hz)
  refine Qi Tryz.func5 rfl rfl rfl rfl ?_
  repeat (first|refine Qc ?_|refine Qb fun _=>?_|refine w_al fun _=>?_)
  refine QB rfl rfl (fun h1=>absurd h1 (by omega)) (fun _=>?_)
  repeat (first|refine Qc ?_|refine Qb fun _=>?_|refine w_al fun _=>?_)
  refine Qk rfl (fun h=>absurd h (by omega)) (fun _=>?_)
  repeat (first|refine Qc ?_|refine Qb fun _=>?_|refine w_al fun _=>?_)
  refine JS (vs:=[.int .i64 2,.int .i64 0,.int .i64 0,.int .i64 2]) sym rfl rfl rfl rfl rfl rfl (jJ rfl) rfl rfl rfl rfl rfl rfl (fun b24=>?_)
  repeat (first|refine qx ?_|refine Qb fun _=>?_|refine w_al fun _=>?_)
  rename_i b3
  refine Yv (M':=([(b24,Blk.arr [.int .i64 2,.int .i64 0,.int .i64 0,.int .i64 2],TInt)]:MH)++((b3,.var (.agg #[.int .i64 2,.slice (some ⟨b24,0,none⟩) 4 4]),56)::M)) (List.Perm.swap _ _ _) ?_
  refine jj fun Us hUs hs=>?_
  have hrow:RowO TInt 1 [(b24,.arr [.int .i64 2,.int .i64 0,.int .i64 0,.int .i64 2],TInt)] (some ⟨b24,0,none⟩) 4 4 [.int .i64 2,.int .i64 0,.int .i64 0,.int .i64 2]:=RowO.mk rfl (jJ rfl) (by decide)
  have rw1:=hrow.sett hs
  have el:El Vz Us [.int .i64 2,.int .i64 0,.int .i64 0,.int .i64 2] (fu 2):=fun k x hk=>by
   have hk4:k < 4:=(List.getElem?_eq_some_iff.1 hk).1
   rcases show k=0∨k=1∨k=2∨k=3 by omega with rfl | rfl | rfl | rfl<;>cases hk<;>exact ⟨rfl,by decide,by decide⟩
  clear hrow hs
  try refine Qa ?_
  refine Qd rfl rfl rfl rfl rfl rfl (fun _=>Qlu (r1:=2) (r2:=2) rw1 el (by decide) (by decide) rw1 el (by decide) (by decide)) ?_
  rintro v29 U29 D29 hU29 ⟨hgr,rfl⟩
  have hgr2:∃ s,v29 = .tuple #[.agg #[.int .i64 4,s],.int .i64 0]∧Ls Vz 1 16 U29 [] s (sgc 4 2 2 (fu 2) (fu 2) 2 2):=hgr.2 esum0
  clear hgr
  obtain ⟨_,rfl,pF,cf,vsf,rfl,hcf,rwf,elf'⟩:=hgr2
  have elf:El Vz U29 vsf (fu 4):=fun k x hk=>by
   have:=elf' k x hk
   rw [Qnb k (rwf.lt hk)] at this
   exact this
  clear elf'
  rw [List.nil_append]
  repeat (first|refine Qc ?_|refine Qb fun _=>?_|refine w_al fun _=>?_)
  rename_i b4
  refine Qd rfl rfl rfl rfl rfl rfl (fun _=>Vg (r:=2) (prec:=((n+1:Nat):Int)) (rw1.up uc (List.nil_sublist _)) (el.up KeptC.out uc) (by decide) (by omega)) ?_
  rintro v35 U35 D35 hU35 ⟨-,hv,rfl⟩
  rw [List.nil_append]
  obtain ⟨_,rfl,la⟩:=Qil (.inl rfl) hn ((hv 2 rfl (QeQ (n:=2) (.inl rfl))).2 (n+1) rfl (by omega))
  clear hv
  obtain ⟨pa,ca,as1,rfl,-⟩:=id la
  repeat (first|refine Qc ?_|refine Qb fun _=>?_|refine w_al fun _=>?_)
  rename_i b6
  refine Qd rfl rfl rfl rfl rfl rfl (fun _=>Vg (r:=4) (prec:=((n+1:Nat):Int)) (rwf.up uc (List.nil_sublist _)) (elf.up KeptC.out uc) (by decide) (by omega)) ?_
  rintro v41 U41 D41 hU41 ⟨-,hv,rfl⟩
  rw [List.nil_append]
  obtain ⟨_,rfl,lb⟩:=Qil (.inr rfl) hn ((hv 4 rfl (QeQ (n:=4) (.inr rfl))).2 (n+1) rfl (by omega))
  clear hv
  obtain ⟨pb,cb,bs1,rfl,-⟩:=id lb
  repeat (first|refine Qc ?_|refine Qb fun _=>?_|refine w_al fun _=>?_)
  rename_i b8
  refine Qd rfl rfl rfl rfl rfl rfl (fun _=>Qgm (TabOK.more hQ uc) (l:=4) (P:=n+1) (.inr rfl) (by omega) (by omega)) ?_
  rintro v46 U46 D46 hU46 ⟨_,rfl,⟨_,rfl,lc⟩,rfl⟩
  rw [List.nil_append]
  obtain ⟨pc,cc,cs1,rfl,-⟩:=id lc
  repeat (first|refine Qc ?_|refine Qb fun _=>?_|refine w_al fun _=>?_)
  rename_i b10
  refine QB rfl rfl (fun h=>absurd rfl h) (fun _=>?_)
  repeat (first|refine Qc ?_|refine Qb fun _=>?_|refine w_al fun _=>?_)
  refine QB rfl rfl (fun h=>absurd rfl h) (fun _=>?_)
  repeat (first|refine Qc ?_|refine Qb fun _=>?_|refine w_al fun _=>?_)
  refine QB rfl rfl (fun h=>absurd rfl h) (fun _=>?_)
  repeat (first|refine Qc ?_|refine Qb fun _=>?_|refine w_al fun _=>?_)
  refine Qk rfl (fun h=>absurd rfl h) (fun _=>?_)
  repeat (first|refine Qc ?_|refine Qb fun _=>?_|refine w_al fun _=>?_)
  refine Qd rfl rfl rfl rfl rfl rfl (fun _=>QlC (P:=n+1) (g:=gsq 2 n) (h:=gsq 2 n) ⟨_,rfl,la.up QI uc (List.nil_sublist _)⟩ ⟨_,rfl,la.up QI uc (List.nil_sublist _)⟩ (fun i=>Qkj (.inl rfl) (by omega)) (fun i=>Qkj (.inl rfl) (by omega)) QfI QfI (Qlm hn) (by omega)) ?_
  rintro v66 U66 D66 hU66 ⟨_,rfl,⟨_,rfl,lx⟩,rfl⟩
  rw [List.nil_append]
  obtain ⟨px,cx,xs1,rfl,-⟩:=id lx
  repeat (first|refine Qc ?_|refine Qb fun _=>?_|refine w_al fun _=>?_)
  rename_i b12
  refine QG [7,8] [1,0,2,3,4,5,6,7,8] sym (by kernel_rfl) ?_
  try refine Qa ?_
  refine Qd rfl rfl rfl rfl rfl rfl (fun _=>(VE (z:=8) (by decide) (by decide)).settle) ?_
  rintro v Uh70 D hU ⟨rfl,_,_,⟨xh70,rfl,h70,-⟩,-,-,hs⟩
  replace h70:=h70.sett hs
  clear hs
  repeat (first|refine Qc ?_|refine Qb fun _=>?_|refine w_al fun _=>?_)
  refine Qd rfl rfl rfl rfl rfl rfl (fun _=>Qbi (P:=n+1) (x:=xh70) (q:=((8:Int):Rat)) (g:=eis 4) (h70.up uc (List.Sublist.refl _)) (VT (by unfold Sz; decide) (by decide)) ⟨_,rfl,lc.up QI uc (List.nil_sublist _)⟩ (QjN 4) (Qgt (.inr ⟨rfl,rfl⟩)) (by omega)) ?_
  rintro v72 U72 D72 hU72 ⟨_,rfl,⟨_,rfl,ly⟩,rfl⟩
  rw [List.nil_append]
  obtain ⟨py,cy,ys1,rfl,-⟩:=id ly
  repeat (first|refine Qc ?_|refine Qb fun _=>?_|refine w_al fun _=>?_)
  rename_i b13
  refine JS (vs:=[.int .i64 2,.int .i64 0,.int .i64 1,.int .i64 0,.int .i64 0,.int .i64 2,.int .i64 1,.int .i64 0,.int .i64 1,.int .i64 1,.int .i64 2,.int .i64 1,.int .i64 0,.int .i64 0,.int .i64 1,.int .i64 2]) sym rfl rfl rfl rfl rfl rfl (jJ rfl) rfl rfl rfl rfl rfl rfl (fun b75=>?_)
  repeat (first|refine qx ?_|refine Qb fun _=>?_|refine w_al fun _=>?_)
  rename_i b14
  refine Yv (M':=([(b75,Blk.arr [.int .i64 2,.int .i64 0,.int .i64 1,.int .i64 0,.int .i64 0,.int .i64 2,.int .i64 1,.int .i64 0,.int .i64 1,.int .i64 1,.int .i64 2,.int .i64 1,.int .i64 0,.int .i64 0,.int .i64 1,.int .i64 2],TInt)]:MH)++((b14,.var (.agg #[.int .i64 4,.slice (some ⟨b75,0,none⟩) 16 16]),56)::(b13,.var (.agg #[.int .i64 0,.slice py (n+1) cy]),61)::(b12,.var (.agg #[.int .i64 0,.slice px (n+1) cx]),61)::(b10,.var (.agg #[.int .i64 0,.slice pc (n+1) cc]),61)::(b8,.var (.agg #[.int .i64 0,.slice pb (n+1) cb]),61)::(b6,.var (.agg #[.int .i64 0,.slice pa (n+1) ca]),61)::(b4,.var (.agg #[.int .i64 4,.slice pF 16 cf]),56)::(b3,.var (.agg #[.int .i64 2,.slice (some ⟨b24,0,none⟩) 4 4]),56)::M)) (List.Perm.swap (b75,Blk.arr [.int .i64 2,.int .i64 0,.int .i64 1,.int .i64 0,.int .i64 0,.int .i64 2,.int .i64 1,.int .i64 0,.int .i64 1,.int .i64 1,.int .i64 2,.int .i64 1,.int .i64 0,.int .i64 0,.int .i64 1,.int .i64 2],TInt) (b14,.var (.agg #[.int .i64 4,.slice (some ⟨b75,0,none⟩) 16 16]),56) ((b13,.var (.agg #[.int .i64 0,.slice py (n+1) cy]),61)::(b12,.var (.agg #[.int .i64 0,.slice px (n+1) cx]),61)::(b10,.var (.agg #[.int .i64 0,.slice pc (n+1) cc]),61)::(b8,.var (.agg #[.int .i64 0,.slice pb (n+1) cb]),61)::(b6,.var (.agg #[.int .i64 0,.slice pa (n+1) ca]),61)::(b4,.var (.agg #[.int .i64 4,.slice pF 16 cf]),56)::(b3,.var (.agg #[.int .i64 2,.slice (some ⟨b24,0,none⟩) 4 4]),56)::M)) ?_
  refine jj fun Ut hUt hs=>?_
  have hrow:RowO TInt 1 [(b75,.arr [.int .i64 2,.int .i64 0,.int .i64 1,.int .i64 0,.int .i64 0,.int .i64 2,.int .i64 1,.int .i64 0,.int .i64 1,.int .i64 1,.int .i64 2,.int .i64 1,.int .i64 0,.int .i64 0,.int .i64 1,.int .i64 2],TInt)] (some ⟨b75,0,none⟩) 16 16 [.int .i64 2,.int .i64 0,.int .i64 1,.int .i64 0,.int .i64 0,.int .i64 2,.int .i64 1,.int .i64 0,.int .i64 1,.int .i64 1,.int .i64 2,.int .i64 1,.int .i64 0,.int .i64 0,.int .i64 1,.int .i64 2]:=RowO.mk rfl (jJ rfl) (by decide)
  have rw2:=hrow.sett hs
  have elr:El Vz Ut [.int .i64 2,.int .i64 0,.int .i64 1,.int .i64 0,.int .i64 0,.int .i64 2,.int .i64 1,.int .i64 0,.int .i64 1,.int .i64 1,.int .i64 2,.int .i64 1,.int .i64 0,.int .i64 0,.int .i64 1,.int .i64 2] fr:=fun k x hk=>by
   have hk4:k < 16:=(List.getElem?_eq_some_iff.1 hk).1
   rcases show k=0∨k=1∨k=2∨k=3∨k=4∨k=5∨k=6∨k=7∨k=8∨k=9∨k=10∨k=11∨k=12∨k=13∨k=14∨k=15 by omega with rfl | rfl | rfl | rfl | rfl | rfl | rfl | rfl | rfl | rfl | rfl | rfl | rfl | rfl | rfl | rfl<;>cases hk<;>exact ⟨rfl,by decide,by decide⟩
  clear hrow hs
  try refine Qa ?_
  refine Qd rfl rfl rfl rfl rfl rfl (fun _=>Vg (r:=4) (prec:=((n+1:Nat):Int)) (rw2.up uc (List.nil_sublist _)) (elr.up KeptC.out uc) (by decide) (by omega)) ?_
  rintro v80 U80 D80 hU80 ⟨-,hv,rfl⟩
  rw [List.nil_append]
  obtain ⟨_,rfl,ld⟩:=Qnl hn ((hv 4 rfl Qnh).2 (n+1) rfl (by omega))
  clear hv
  obtain ⟨pd,cd,ds1,rfl,-⟩:=id ld
  repeat (first|refine Qc ?_|refine Qb fun _=>?_|refine w_al fun _=>?_)
  refine Qd rfl rfl rfl rfl rfl rfl (fun _=>Qgm (TabOK.more hQ uc) (l:=2) (P:=n+1) (.inl rfl) (by omega) (by omega)) ?_
  rintro v85 U85 D85 hU85 ⟨_,rfl,⟨_,rfl,lz⟩,rfl⟩
  rw [List.nil_append]
  obtain ⟨pz,cz,zs1,rfl,-⟩:=id lz
  repeat (first|refine Qc ?_|refine Qb fun _=>?_|refine w_al fun _=>?_)
  refine QB rfl rfl (fun h=>absurd rfl h) (fun _=>?_)
  repeat (first|refine Qc ?_|refine Qb fun _=>?_|refine w_al fun _=>?_)
  refine QB rfl rfl (fun h=>absurd rfl h) (fun _=>?_)
  repeat (first|refine Qc ?_|refine Qb fun _=>?_|refine w_al fun _=>?_)
  refine QB rfl rfl (fun h=>absurd rfl h) (fun _=>?_)
  repeat (first|refine Qc ?_|refine Qb fun _=>?_|refine w_al fun _=>?_)
  refine Qk rfl (fun h=>absurd rfl h) (fun _=>?_)
  repeat (first|refine Qc ?_|refine Qb fun _=>?_|refine w_al fun _=>?_)
  refine QG [2,6,7] [1,0,2,3,4,5,6,7] sym (by kernel_rfl) ?_
  try refine Qa ?_
  refine Qd rfl rfl rfl rfl rfl rfl (fun _=>(VE (z:=24) (by decide) (by decide)).settle) ?_
  rintro v Uh103 D hU ⟨rfl,_,_,⟨xh103,rfl,h103,-⟩,-,-,hs⟩
  replace h103:=h103.sett hs
  clear hs
  repeat (first|refine Qc ?_|refine Qb fun _=>?_|refine w_al fun _=>?_)
  refine Qd rfl rfl rfl rfl rfl rfl (fun _=>Qbi (P:=n+1) (x:=xh103) (q:=((24:Int):Rat)) (g:=eis 2) (h103.up uc (List.Sublist.refl _)) (VT (by unfold Sz; decide) (by decide)) ⟨_,rfl,lz.up QI uc (List.nil_sublist _)⟩ (QjN 2) (Qgt (.inl ⟨rfl,rfl⟩)) (by omega)) ?_
  rintro v105 U105 D105 hU105 ⟨_,rfl,⟨_,rfl,lw⟩,rfl⟩
  rw [List.nil_append]
  obtain ⟨pw,cw,ws1,rfl,-⟩:=id lw
  repeat (first|refine Qc ?_|refine Qb fun _=>?_|refine w_al fun _=>?_)
  refine QB rfl rfl (fun _=>?_) (fun h=>absurd rfl h)
  repeat (first|refine Qc ?_|refine Qb fun _=>?_|refine w_al fun _=>?_)
  refine Qd rfl rfl rfl rfl rfl rfl (fun _=>YV (m:=n+1) (n:=n+1) (g:=cnv (gsq 2 n) (gsq 2 n)) (g':=gsq 4 n) ⟨_,rfl,lx.up QI uc (List.nil_sublist _)⟩ ⟨_,rfl,lb.up QI uc (List.nil_sublist _)⟩ (by omega) (by omega)) ?_
  rintro v113 U113 D113 hU113 ⟨b1,rfl,hb1,rfl,rfl⟩
  obtain rfl:b1=true:=hb1.2 ⟨rfl,rfl,fun i hi=>by rw [Qgh (by omega) hn,Qbs (by omega) hn]⟩
  rw [List.nil_append]
  repeat (first|refine Qc ?_|refine Qb fun _=>?_|refine w_al fun _=>?_)
  refine Qd rfl rfl rfl rfl rfl rfl (fun _=>YV (m:=n+1) (n:=n+1) (g:=fun k=>((8:Int):Rat)*eis 4 k) (g':=gsq 4 n) ⟨_,rfl,ly.up QI uc (List.nil_sublist _)⟩ ⟨_,rfl,lb.up QI uc (List.nil_sublist _)⟩ (by omega) (by omega)) ?_
  rintro v118 U118 D118 hU118 ⟨b2,rfl,hb2,rfl,rfl⟩
  obtain rfl:b2=true:=hb2.2 ⟨rfl,rfl,fun i hi=>by rw [Qcc (.inr ⟨rfl,rfl⟩),if_pos rfl,Qbs (by omega) hn]⟩
  rw [List.nil_append]
  repeat (first|refine Qc ?_|refine Qb fun _=>?_|refine w_al fun _=>?_)
  refine Qd rfl rfl rfl rfl rfl rfl (fun _=>YV (m:=n+1) (n:=n+1) (g:=fun k=>((24:Int):Rat)*eis 2 k) (g':=fun q=>(((Bx.r24 q:Nat):Int):Rat)) ⟨_,rfl,lw.up QI uc (List.nil_sublist _)⟩ ⟨_,rfl,ld.up QI uc (List.nil_sublist _)⟩ (by omega) (by omega)) ?_
  rintro v123 U123 D123 hU123 ⟨b3',rfl,hb3,rfl,rfl⟩
  obtain rfl:b3'=true:=hb3.2 ⟨rfl,rfl,fun i hi=>by rw [Qcc (.inl ⟨rfl,rfl⟩),if_neg (by decide)]⟩
  rw [List.nil_append]
  repeat (first|refine Qc ?_|refine Qb fun _=>?_|refine w_al fun _=>?_)
  refine Qd rfl rfl rfl rfl rfl rfl (fun _=>yg (TabOK.more hQ uc)) ?_
  rintro v126 U126 D126 hU126 ⟨rfl,rfl⟩
  try refine Qa ?_
  exact Qf [] sym rfl (.cons (.tmp rfl) .nil) uc sb (.inl rfl) rfl
end Go.Proofs.YtnjpkncacddplaaGreatDoor
