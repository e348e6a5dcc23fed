/- Texts of this seat's own, merged: each begins with its own remark. -/
import Derived.Test.YthnnlgjlhnmhnaaGreatM19
/- Numbers with the rules of a commutative ring; sums; determinants. No condition. -/
namespace Go.Lr
class Rg (K:Type) extends Zero K,One K,Add K,Mul K,Neg K where
 add_assoc:∀ a b c:K,a+b+c=a+(b+c)
 add_comm:∀ a b:K,a+b=b+a
 zero_add:∀ a:K,0+a=a
 neg_add:∀ a:K,-a+a=0
 mul_assoc:∀ a b c:K,a*b*c=a*(b*c)
 mul_comm:∀ a b:K,a*b=b*a
 one_mul:∀ a:K,1*a=a
 mul_add:∀ a b c:K,a*(b+c)=a*b+a*c
open Go.La (Mx setr Qq setr_ne swap swap_at swap_ne skip skip_lt)
section
variable {K:Type} [Rg K]
theorem add_assoc (a b c:K):a+b+c=a+(b+c):=Rg.add_assoc a b c
theorem add_comm (a b:K):a+b=b+a:=Rg.add_comm a b
theorem Ju (a b c:K):a+(b+c)=b+(a+c):=by rw [← add_assoc,add_comm a b,add_assoc]
theorem mul_assoc (a b c:K):a*b*c=a*(b*c):=Rg.mul_assoc a b c
theorem mul_comm (a b:K):a*b=b*a:=Rg.mul_comm a b
theorem mul_left_comm (a b c:K):a*(b*c)=b*(a*c):=by rw [← mul_assoc,mul_comm a b,mul_assoc]
theorem zero_add (a:K):0+a=a:=Rg.zero_add a
theorem add_zero (a:K):a+0=a:=by rw [add_comm,zero_add]
theorem QW (a:K) : -a+a=0:=Rg.neg_add a
theorem QC (a:K):a + -a=0:=by rw [add_comm,QW]
theorem YE (a b:K) : -a+(a+b)=b:=by rw [← add_assoc,QW,zero_add]
theorem one_mul (a:K):1*a=a:=Rg.one_mul a
theorem mul_one (a:K):a*1=a:=by rw [mul_comm,one_mul]
theorem mul_add (a b c:K):a*(b+c)=a*b+a*c:=Rg.mul_add a b c
theorem add_mul (a b c:K):(a+b)*c=a*c+b*c:=by rw [mul_comm,mul_add,mul_comm c a,mul_comm c b]
theorem Yi {a b c:K} (h:a+b=a+c):b=c:=by rw [← YE a b,h,YE]
theorem JZ {a:K} (h:a+a=a):a=0:=Yi (a:=a) (by rw [h,add_zero])
theorem mul_zero (a:K):a*0=0:=JZ (by rw [← mul_add,zero_add])
theorem zero_mul (a:K):0*a=0:=by rw [mul_comm,mul_zero]
theorem YK {a b:K} (h:a+b=0):b = -a:=Yi (a:=a) (by rw [h,QC])
theorem Yy (a:K) : -(-a)=a:=(YK (QW a)).symm
theorem neg_mul (a b:K) : -a*b = -(a*b):=YK (by rw [← add_mul,QC,zero_mul])
theorem mul_neg (a b:K):a * -b = -(a*b):=by rw [mul_comm,neg_mul,mul_comm]
theorem neg_zero : -(0:K)=0:=(YK (zero_add 0)).symm
theorem neg_add (a b:K) : -(a+b) = -a + -b:=(YK (by rw [add_assoc,Ju b,← add_assoc a,QC,QC,zero_add])).symm
def sm:Nat→(Nat→K)→K
 | 0,_=>0
 | n+1,f=>sm n f+f n
theorem sm_congr:∀ {n:Nat} {f g:Nat→K},(∀ k,k < n→f k=g k)→sm n f=sm n g
 | 0,_,_,_=>rfl
 | n+1,f,g,h=>by
  unfold sm
  rw [sm_congr (n:=n) (fun k hk=>h k (by omega)),h n (by omega)]
theorem sm_zero:∀ {n:Nat} {f:Nat→K},(∀ k,k < n→f k=0)→sm n f=0
 | 0,_,_=>rfl
 | n+1,f,h=>by
  unfold sm
  rw [sm_zero (n:=n) (fun k hk=>h k (by omega)),h n (by omega),zero_add]
theorem JK:∀ (n:Nat) (f g:Nat→K),sm n (fun k=>f k+g k)=sm n f+sm n g
 | 0,_,_=>(zero_add _).symm
 | n+1,f,g=>by
  unfold sm
  rw [JK n f g,add_assoc,add_assoc]
  congr 1
  rw [Ju]
theorem sm_mul:∀ (n:Nat) (c:K) (f:Nat→K),sm n (fun k=>c*f k)=c*sm n f
 | 0,_,_=>(mul_zero _).symm
 | n+1,c,f=>by
  unfold sm
  rw [sm_mul n c f,mul_add]
theorem sm_mul' (n:Nat) (c:K) (f:Nat→K):sm n (fun k=>f k*c)=sm n f*c:=by
 rw [mul_comm,← sm_mul]
 exact sm_congr fun k _=>mul_comm _ _
theorem jd:∀ (n:Nat) (f:Nat→K),sm n (fun k => -f k) = -sm n f
 | 0,_=>neg_zero.symm
 | n+1,f=>by
  unfold sm
  rw [jd n f,neg_add]
theorem sm_comm:∀ (m n:Nat) (f:Nat→Nat→K),sm m (fun i=>sm n fun j=>f i j)=sm n (fun j=>sm m fun i=>f i j)
 | 0,n,f=>(sm_zero (n:=n) fun _ _=>rfl).symm
 | m+1,n,f=>by
  show sm m (fun i=>sm n fun j=>f i j)+sm n (fun j=>f m j)=_
  rw [sm_comm m n f,← JK]
  rfl
theorem sm_one:∀ {n:Nat} {f:Nat→K} (k:Nat),k < n→(∀ j,j < n→j≠k→f j=0)→sm n f=f k
 | 0,_,_,h,_=>by omega
 | n+1,f,k,h,hz=>by
  unfold sm
  by_cases e:k=n
  ·subst e
   rw [sm_zero (n:=k) (fun j hj=>hz j (by omega) (by omega)),zero_add]
  ·rw [sm_one (n:=n) k (by omega) (fun j hj=>hz j (by omega)),hz n (by omega) (fun e'=>e e'.symm),add_zero]
theorem sm_left:∀ (n:Nat) (f:Nat→K),sm (n+1) f=f 0+sm n (fun k=>f (k+1))
 | 0,f=>by unfold sm sm; rw [zero_add,add_zero]
 | n+1,f=>by
  rw [sm,sm_left n f,sm,add_assoc]
theorem Qct {n:Nat} {f:Nat→K} {p q:Nat} (hp:p < n) (hq:q < n) (hne:p≠q) (hz:∀ j,j < n→j≠p→j≠q→f j=0):sm n f=f p+f q:=by
 have h:sm n f=sm n (fun k=>(if k=p then f k else 0)+(if k=p then 0 else f k)):=sm_congr fun k _=>by
  by_cases e:k=p
  ·rw [if_pos e,if_pos e,add_zero]
  ·rw [if_neg e,if_neg e,zero_add]
 rw [h,JK,sm_one p hp (fun j _ hj=>by rw [if_neg hj]),if_pos rfl,sm_one q hq (fun j hj hj2=>by
  by_cases e:j=p
  ·rw [if_pos e]
  ·rw [if_neg e]; exact hz j hj e hj2),if_neg (Ne.symm hne)]
theorem sm_app (m:Nat):∀ (n:Nat) (f:Nat→K),sm (m+n) f=sm m f+sm n (fun k=>f (m+k))
 | 0,f=>by rw [Nat.add_zero]; unfold sm; exact (add_zero _).symm
 | n+1,f=>by rw [← Nat.add_assoc,sm,sm_app m n f,sm,add_assoc]
def sgn:Nat→K
 | 0=>1
 | j+1 => -sgn j
def tr (A:Mx K):Mx K:=fun i j=>A j i
def minor (A:Mx K) (j:Nat):Mx K:=fun i k=>A (i+1) (skip j k)
def det:Nat→Mx K→K
 | 0,_=>1
 | n+1,A=>sm (n+1) fun j=>sgn j*(A 0 j*det n (minor A j))
theorem det_congr:∀ {n:Nat} {A B:Mx K},(∀ i j,i < n→j < n→A i j=B i j)→det n A=det n B
 | 0,_,_,_=>rfl
 | n+1,A,B,h=>by
  unfold det
  refine sm_congr fun j hj=>?_
  rw [h 0 j (by omega) hj,det_congr (n:=n) (A:=minor A j) (B:=minor B j) fun i k hi hk=>h _ _ (by omega) (skip_lt hk)]
theorem det_tr:∀ (n:Nat) (A:Mx K),det n (tr A)=det n A
 | 0,_=>rfl
 | 1,A=>rfl
 | n+2,A=>by
  have main:∀ B:Mx K,det (n+2) B=B 0 0*det (n+1) (fun i j=>B (i+1) (j+1))+sm (n+1) (fun j=>sm (n+1) fun i => -(sgn j*sgn i*(B 0 (j+1)*(B (i+1) 0*det n (fun a b=>B (skip i b+1) (skip j a+1)))))):=by
   intro B
   rw [det,sm_left]
   congr 1
   ·show 1*_=_
    rw [one_mul]; rfl
   ·refine sm_congr fun j _=>?_
    rw [← det_tr (n+1) (minor B (j+1)),det,← sm_mul,← sm_mul]
    refine sm_congr fun i _=>?_
    have e1:tr (minor B (j+1)) 0 i=B (i+1) 0:=rfl
    have e2:det n (minor (tr (minor B (j+1))) i)=det n (fun a b=>B (skip i b+1) (skip j a+1)):=det_congr fun a b _ _=>by
     show B (skip i b+1) (skip (j+1) (a+1))=_
     congr 1
     unfold skip; split<;>split<;>omega
    rw [e1,e2]
    show -sgn j*_=_
    rw [neg_mul]
    congr 1
    simp only [mul_assoc,mul_left_comm]
  rw [main A,main (tr A)]
  congr 1
  ·show A 0 0*_=_
   congr 1
   exact det_tr (n+1) (fun i j=>A (i+1) (j+1))
  ·rw [sm_comm]
   refine sm_congr fun i _=>sm_congr fun j _=>?_
   congr 1
   have e:det n (fun a b=>tr A (skip i b+1) (skip j a+1))=det n (fun a b=>A (skip j b+1) (skip i a+1)):=det_tr n (fun a b=>A (skip j b+1) (skip i a+1))
   rw [e]
   simp only [tr]
   rw [mul_comm (sgn j),mul_left_comm (A (j+1) 0)]
theorem jj:∀ {n:Nat} {A B C:Mx K} {t:K} {c:Nat},c < n→(∀ i,A i c=B i c+t*C i c)→(∀ i j,j≠c→A i j=B i j)→(∀ i j,j≠c→A i j=C i j)→det n A=det n B+t*det n C
 | n+1,A,B,C,t,c,hc,h,hB,hC=>by
  unfold det
  rw [← sm_mul,← JK]
  refine sm_congr fun j hj=>?_
  by_cases e:j=c
  ·subst e
   rw [h 0]
   have e1:minor A j=minor B j:=by
    funext i k; exact hB _ _ (by unfold skip; split<;>omega)
   have e2:minor A j=minor C j:=by
    funext i k; exact hC _ _ (by unfold skip; split<;>omega)
   rw [← e1,← e2,add_mul,mul_add,mul_assoc,mul_left_comm t (sgn j)]
  ·rw [← hB 0 j e,← hC 0 j e]
   have hs:∃ c',c' < n∧skip j c'=c∧∀ k,k≠c'→skip j k≠c:=by
    rcases Nat.lt_or_gt_of_ne e with h1 | h1
    ·exact ⟨c - 1,by omega,by unfold skip; split<;>omega,fun k hk=>by unfold skip; split<;>omega⟩
    ·exact ⟨c,by omega,by unfold skip; split<;>omega,fun k hk=>by unfold skip; split<;>omega⟩
   obtain ⟨c',h1,h2,h3⟩:=hs
   have ih:=jj (n:=n) (A:=minor A j) (B:=minor B j) (C:=minor C j) (t:=t) (c:=c') h1
    (fun i=>by unfold minor; rw [h2]; exact h _) (fun i k hk=>hB _ _ (h3 k hk)) (fun i k hk=>hC _ _ (h3 k hk))
   rw [ih,mul_add,mul_add]
   congr 1
   simp only [mul_left_comm t]
theorem jF:∀ {n:Nat} {A:Mx K} {c:Nat},c+1 < n→(∀ i,A i c=A i (c+1))→det n A=0
 | n+1,A,c,hc,h=>by
  unfold det
  rw [Qct (p:=c) (q:=c+1) (by omega) hc (by omega)]
  ·have e:det n (minor A (c+1))=det n (minor A c):=det_congr fun i k _ _=>by
    show A (i+1) (skip (c+1) k)=A (i+1) (skip c k)
    by_cases hk:k=c
    ·subst hk
     rw [show skip (k+1) k=k by unfold skip; split<;>omega,show skip k k=k+1 by unfold skip; split<;>omega]
     exact h _
    ·rw [show skip (c+1) k=skip c k by unfold skip; split<;>split<;>omega]
   rw [e,← h 0]
   show sgn c*_ + -sgn c*_=0
   rw [neg_mul,QC]
  ·intro j hj h1 h2
   have hs:∃ c',c'+1 < n∧skip j c'=c∧skip j (c'+1)=c+1:=by
    rcases Nat.lt_or_gt_of_ne h1 with h3 | h3
    ·exact ⟨c - 1,by omega,by unfold skip; split<;>omega,by unfold skip; split<;>omega⟩
    ·exact ⟨c,by omega,by unfold skip; split<;>omega,by unfold skip; split<;>omega⟩
   obtain ⟨c',h3,h4,h5⟩:=hs
   rw [jF (n:=n) (A:=minor A j) (c:=c') h3 (fun i=>by unfold minor; rw [h4,h5]; exact h _),mul_zero,mul_zero]
structure Alt (n:Nat) (F:Mx K→K):Prop where
 congr:∀ {A B:Mx K},(∀ i j,i < n→j < n→A i j=B i j)→F A=F B
 row:∀ {A B C:Mx K} {t:K} {r:Nat},r < n→(∀ j,A r j=B r j+t*C r j)→(∀ i,i≠r→A i=B i)→(∀ i,i≠r→A i=C i)→F A=F B+t*F C
 adj:∀ {A:Mx K} {r:Nat},r+1 < n→A r=A (r+1)→F A=0
theorem det_alt (n:Nat):Alt n (det n:Mx K→K) where
 congr h:=det_congr h
 row {A B C t r} hr h hB hC:=by
  rw [← det_tr n A,← det_tr n B,← det_tr n C]
  exact jj hr (fun i=>h i) (fun i j hj=>congrFun (hB j hj) i) (fun i j hj=>congrFun (hC j hj) i)
 adj {A r} hr h:=by
  rw [← det_tr]
  exact jF hr (fun i=>congrFun h i)
theorem Alt.swap_of {n:Nat} {F:Mx K→K} (h:Alt n F) {p q:Nat} (hp:p < n) (hq:q < n) (hne:p≠q) (hz:∀ A:Mx K,A p=A q→F A=0) (A:Mx K):F (swap A p q) = -F A:=by
 -- rows p and q both x+y
 let v:Nat→K:=fun j=>A p j+A q j
 let S:(Nat→K)→(Nat→K)→Mx K:=fun x y=>setr (setr A p x) q y
 have hS:∀ x y,S x y p=x∧S x y q=y:=fun x y=>⟨by show setr _ q y p=x; rw [setr_ne _ _ hne,Qq],Qq _ _ _⟩
 have hSo:∀ x y i,i≠p→i≠q→S x y i=A i:=fun x y i h1 h2=>by show setr _ q y i=_; rw [setr_ne _ _ h2,setr_ne _ _ h1]
 have hrow1:∀ x x' y,F (S (fun j=>x j+x' j) y)=F (S x y)+F (S x' y):=fun x x' y=>by
  have:=h.row (A:=S (fun j=>x j+x' j) y) (B:=S x y) (C:=S x' y) (t:=1) hp (fun j=>by rw [(hS _ _).1,(hS _ _).1,(hS _ _).1,one_mul])
   (fun i hi=>by
    by_cases e:i=q
    ·subst e; rw [(hS _ _).2,(hS _ _).2]
    ·rw [hSo _ _ i hi e,hSo _ _ i hi e])
   (fun i hi=>by
    by_cases e:i=q
    ·subst e; rw [(hS _ _).2,(hS _ _).2]
    ·rw [hSo _ _ i hi e,hSo _ _ i hi e])
  rw [this,one_mul]
 have hrow2:∀ x y y',F (S x (fun j=>y j+y' j))=F (S x y)+F (S x y'):=fun x y y'=>by
  have:=h.row (A:=S x (fun j=>y j+y' j)) (B:=S x y) (C:=S x y') (t:=1) hq (fun j=>by rw [(hS _ _).2,(hS _ _).2,(hS _ _).2,one_mul])
   (fun i hi=>by
    by_cases e:i=p
    ·subst e; rw [(hS _ _).1,(hS _ _).1]
    ·rw [hSo _ _ i e hi,hSo _ _ i e hi])
   (fun i hi=>by
    by_cases e:i=p
    ·subst e; rw [(hS _ _).1,(hS _ _).1]
    ·rw [hSo _ _ i e hi,hSo _ _ i e hi])
  rw [this,one_mul]
 have hd:∀ x,F (S x x)=0:=fun x=>hz _ (by rw [(hS x x).1,(hS x x).2])
 have h0:=hd v
 rw [show S v v=S (fun j=>A p j+A q j) v from rfl,hrow1,show S (A p) v=S (A p) (fun j=>A p j+A q j) from rfl,show S (A q) v=S (A q) (fun j=>A p j+A q j) from rfl,hrow2,hrow2,hd,hd,zero_add,add_zero] at h0
 have e1:S (A p) (A q)=A:=by
  funext i
  by_cases e:i=p
  ·subst e; exact (hS _ _).1
  ·by_cases e':i=q
   ·subst e'; exact (hS _ _).2
   ·exact hSo _ _ i e e'
 have e2:S (A q) (A p)=swap A p q:=by
  funext i
  unfold swap
  by_cases e:i=p
  ·subst e; rw [if_pos rfl]; exact (hS _ _).1
  ·rw [if_neg e]
   by_cases e':i=q
   ·subst e'; rw [if_pos rfl]; exact (hS _ _).2
   ·rw [if_neg e']; exact hSo _ _ i e e'
 rw [e1,e2] at h0
 exact YK h0
theorem Alt.same {n:Nat} {F:Mx K→K} (h:Alt n F):∀ (d p:Nat) {A:Mx K},p+d+1 < n→A p=A (p+d+1)→F A=0
 | 0,p,A,hn,he=>h.adj hn he
 | d+1,p,A,hn,he=>by
  have h1:=h.swap_of (p:=p+d+1) (q:=p+d+2) (by omega) (by omega) (by omega) (fun B hB=>h.adj (r:=p+d+1) (by omega) hB) A
  have h2:=Alt.same h d p (A:=swap A (p+d+1) (p+d+2)) (by omega) (by rw [swap_ne (by omega) (by omega),swap_at.1]; exact he)
  rw [h2] at h1
  rw [← Yy (F A),← h1,neg_zero]
theorem Alt.eq {n:Nat} {F:Mx K→K} (h:Alt n F) {p q:Nat} {A:Mx K} (hp:p < n) (hq:q < n) (hne:p≠q) (he:A p=A q):F A=0:=by
 rcases Nat.lt_or_gt_of_ne hne with h1 | h1
 ·exact h.same (q - p - 1) p (by omega) (by rw [he]; congr 1; omega)
 ·exact h.same (p - q - 1) q (by omega) (by rw [← he]; congr 1; omega)
theorem Alt.swap {n:Nat} {F:Mx K→K} (h:Alt n F) {p q:Nat} (hp:p < n) (hq:q < n) (hne:p≠q) (A:Mx K):F (swap A p q) = -F A :=
 h.swap_of hp hq hne (fun _ e=>h.eq hp hq hne e) A
theorem Alt.comb {n:Nat} {F:Mx K→K} (h:Alt n F) {p q:Nat} (hp:p < n) (hq:q < n) (hne:p≠q) (t:K) (A:Mx K):F (setr A p (fun j=>A p j+t*A q j))=F A:=by
 rw [h.row (B:=A) (C:=setr A p (A q)) (t:=t) hp (fun j=>by rw [Qq,Qq]) (fun i hi=>setr_ne _ _ hi) (fun i hi=>by rw [setr_ne _ _ hi,setr_ne _ _ hi]),
  h.eq (A:=setr A p (A q)) (p:=p) (q:=q) hp hq hne (by rw [Qq,setr_ne _ _ (Ne.symm hne)]),mul_zero,add_zero]
theorem Alt.zero {n:Nat} {F:Mx K→K} (h:Alt n F) {r:Nat} (hr:r < n) {A:Mx K} (hz:∀ j,j < n→A r j=0):F A=0:=by
 rw [h.congr (A:=A) (B:=setr A r (fun _=>0)) (fun i j _ hj=>by
  by_cases e:i=r
  ·subst e; rw [Qq]; exact hz j hj
  ·rw [setr_ne _ _ e])]
 refine JZ ?_
 have:=h.row (A:=setr A r (fun _=>0)) (B:=setr A r (fun _=>0)) (C:=setr A r (fun _=>0)) (t:=1) hr (fun j=>by rw [Qq,mul_zero,add_zero]) (fun _ _=>rfl) (fun _ _=>rfl)
 rw [one_mul] at this
 exact this.symm
theorem Alt.scale {n:Nat} {F:Mx K→K} (h:Alt n F) {r:Nat} (hr:r < n) (t:K) (A:Mx K):F (setr A r (fun j=>t*A r j))=t*F A:=by
 rw [h.row (B:=setr A r (fun _=>0)) (C:=A) (t:=t) hr (fun j=>by rw [Qq,Qq,zero_add]) (fun i hi=>by rw [setr_ne _ _ hi,setr_ne _ _ hi]) (fun i hi=>setr_ne _ _ hi),
  h.zero hr (fun j _=>by rw [Qq]),zero_add]
def mm (n:Nat) (A B:Mx K):Mx K:=fun i j=>sm n fun k=>A i k*B k j
def idm:Mx K:=fun i j=>if i=j then 1 else 0
theorem QgM {n:Nat} {F:Mx K→K} (h:Alt n F) (B:Mx K):Alt n (fun A=>F (mm n A B)) where
 congr {A A'} he:=h.congr fun i j hi hj=>sm_congr fun k hk=>by rw [he i k hi hk]
 row {A A' C t r} hr h1 h2 h3:=h.row hr (fun j=>by
   unfold mm
   rw [← sm_mul,← JK]
   refine sm_congr fun k _=>?_
   rw [h1 k,add_mul,mul_assoc]) (fun i hi=>by unfold mm; rw [h2 i hi]) (fun i hi=>by unfold mm; rw [h3 i hi])
 adj {A r} hr he:=h.adj hr (by unfold mm; rw [he])
theorem Qfg {n:Nat} (B:Mx K) {i j:Nat} (hi:i < n):mm n idm B i j=B i j:=by
 unfold mm idm
 rw [sm_one i hi (fun k _ hk=>by rw [if_neg (Ne.symm hk),zero_mul]),if_pos rfl,one_mul]
theorem qH:∀ n:Nat,det n (idm:Mx K)=1
 | 0=>rfl
 | n+1=>by
  unfold det
  rw [sm_one 0 (by omega) (fun j _ hj=>by unfold idm; rw [if_neg (Ne.symm hj),zero_mul,mul_zero])]
  have e:det n (minor (idm:Mx K) 0)=det n idm:=det_congr fun i k _ _=>by
   show (if i+1=skip 0 k then (1:K) else 0)=if i=k then 1 else 0
   rw [show skip 0 k=k+1 by unfold skip; split<;>omega]
   by_cases h:i=k
   ·rw [if_pos h,if_pos (by omega)]
   ·rw [if_neg h,if_neg (by omega)]
  rw [e,qH n]
  show (1:K)*((if 0=0 then 1 else 0)*1)=1
  rw [if_pos rfl,one_mul,one_mul]
end
end Go.Lr

/- Rings: maps between them, power series, rows taken apart. No condition. -/
namespace Go.Lr
open Go.La (Mx setr Qq setr_ne swap swap_at swap_ne skip skip_lt Fld)
instance ofFld {K:Type} [Fld K]:Rg K where
 add_assoc:=Fld.add_assoc
 add_comm:=Fld.add_comm
 zero_add:=Fld.zero_add
 neg_add:=Fld.neg_add
 mul_assoc:=Fld.mul_assoc
 mul_comm:=Fld.mul_comm
 one_mul:=Fld.one_mul
 mul_add:=Fld.mul_add
instance:Rg Int where
 add_assoc:=Int.add_assoc
 add_comm:=Int.add_comm
 zero_add:=Int.zero_add
 neg_add:=Int.add_left_neg
 mul_assoc:=Int.mul_assoc
 mul_comm:=Int.mul_comm
 one_mul:=Int.one_mul
 mul_add:=Int.mul_add
theorem sm_la {K:Type} [Fld K]:∀ (n:Nat) (f:Nat→K),sm n f=La.sm n f
 | 0,_=>rfl
 | n+1,f=>by show sm n f+f n=La.sm n f+f n; rw [sm_la n f]
theorem Qfl {K:Type} [Fld K]:∀ n:Nat,(sgn n:K)=La.sgn n
 | 0=>rfl
 | n+1=>by show -(sgn n:K) = -La.sgn n; rw [Qfl n]
theorem det_la {K:Type} [Fld K]:∀ (n:Nat) (A:Mx K),det n A=La.det n A
 | 0,_=>rfl
 | n+1,A=>by
  show sm (n+1) _=La.sm (n+1) _
  rw [sm_la]
  refine La.sm_congr fun j _=>?_
  rw [Qfl,det_la n]
  rfl
structure Hom {R S:Type} [Rg R] [Rg S] (φ:R→S):Prop where
 zero:φ 0=0
 one:φ 1=1
 add:∀ a b,φ (a+b)=φ a+φ b
 mul:∀ a b,φ (a*b)=φ a*φ b
theorem Hom.neg {R S:Type} [Rg R] [Rg S] {φ:R→S} (h:Hom φ) (a:R):φ (-a) = -φ a:=YK (by rw [← h.add,QC,h.zero])
theorem Hom.sm {R S:Type} [Rg R] [Rg S] {φ:R→S} (h:Hom φ):∀ (n:Nat) (f:Nat→R),φ (sm n f)=Lr.sm n fun k=>φ (f k)
 | 0,_=>h.zero
 | n+1,f=>by show φ (Lr.sm n f+f n)=Lr.sm n _+φ (f n); rw [h.add,h.sm n f]
theorem Hom.sgn {R S:Type} [Rg R] [Rg S] {φ:R→S} (h:Hom φ):∀ n:Nat,φ (sgn n)=Lr.sgn n
 | 0=>h.one
 | n+1=>by show φ (-Lr.sgn n) = -Lr.sgn n; rw [h.neg,h.sgn n]
theorem Hom.det {R S:Type} [Rg R] [Rg S] {φ:R→S} (h:Hom φ):∀ (n:Nat) (A:Mx R),φ (det n A)=Lr.det n fun i j=>φ (A i j)
 | 0,_=>h.one
 | n+1,A=>by
  show φ (Lr.sm (n+1) _)=Lr.sm (n+1) _
  rw [h.sm]
  refine sm_congr fun j _=>?_
  rw [h.mul,h.mul,h.sgn,h.det n]
  rfl
section
variable {K:Type} [Rg K]
theorem Alt.comb_sum {n:Nat} {F:Mx K→K} (h:Alt n F) {k:Nat} (hk:k < n) (M:Mx K) (v:Nat→K) (B:Mx K) :
  ∀ m:Nat,F (setr M k (fun l=>sm m fun j=>v j*B j l))=sm m fun j=>v j*F (setr M k (B j))
 | 0=>h.zero hk fun j _=>by rw [Qq]; rfl
 | m+1=>by
  rw [h.row (B:=setr M k (fun l=>sm m fun j=>v j*B j l)) (C:=setr M k (B m)) (t:=v m) hk (fun j=>by rw [Qq,Qq,Qq]; rfl) (fun i hi=>by rw [setr_ne _ _ hi,setr_ne _ _ hi]) (fun i hi=>by rw [setr_ne _ _ hi,setr_ne _ _ hi]),
   h.comb_sum hk M v B m]
  rfl
theorem Alt.row_exp {n:Nat} {F:Mx K→K} (h:Alt n F) {k:Nat} (hk:k < n) (M:Mx K) (v:Nat→K):F (setr M k v)=sm n fun j=>v j*F (setr M k (idm j)):=by
 rw [← h.comb_sum hk M v idm n]
 refine h.congr fun i j _ hj=>?_
 by_cases e:i=k
 ·subst e
  rw [Qq,Qq]
  rw [sm_one j hj (fun l _ hl=>by unfold idm; rw [if_neg hl,mul_zero])]
  unfold idm; rw [if_pos rfl,mul_one]
 ·rw [setr_ne _ _ e,setr_ne _ _ e]
theorem det_last:∀ {n:Nat} {M:Mx K},(∀ j,j < n→M n j=0)→det (n+1) M=det n M*M n n
 | 0,M,_=>by
  show (0:K)+1*(M 0 0*1)=1*M 0 0
  rw [zero_add,mul_one]
 | n+1,M,h=>by
  rw [det,sm,show (minor M (n+1))=minor M (n+1) from rfl]
  have e0:det (n+1) (minor M (n+1))=0:=(det_alt (n+1)).zero (r:=n) (by omega) fun j hj=>by
   show M (n+1) (skip (n+1) j)=0
   rw [show skip (n+1) j=j by unfold skip; rw [if_pos hj]]
   exact h j hj
  rw [e0,mul_zero,mul_zero,add_zero]
  rw [show det (n+1) M=sm (n+1) fun j=>sgn j*(M 0 j*det n (minor M j)) from rfl,← sm_mul']
  refine sm_congr fun j hj=>?_
  rw [det_last (n:=n) (M:=minor M j) fun k hk=>by
   show M (n+1) (skip j k)=0
   exact h _ (skip_lt hk)]
  have e1:minor M j n n=M (n+1) (n+1):=by
   show M (n+1) (skip j n)=_
   rw [show skip j n=n+1 by unfold skip; rw [if_neg (by omega)]]
  rw [e1,mul_assoc,mul_assoc]
end
def PS (K:Type):Type:=Nat→K
section
variable {K:Type} [Rg K]
theorem tri:∀ (n:Nat) (G:Nat→Nat→Nat→K),sm (n+1) (fun i=>sm (i+1) fun j=>G j (i - j) (n - i))=sm (n+1) fun j=>sm (n - j+1) fun k=>G j k (n - j - k)
 | 0,G=>rfl
 | n+1,G=>by
  have h1:sm (n+2) (fun i=>sm (i+1) fun j=>G j (i - j) (n+1 - i))=sm (n+2) (fun i=>G 0 i (n+1 - i))+sm (n+2) fun i=>sm i fun j=>G (j+1) (i - (j+1)) (n+1 - i):=by
   rw [← JK]
   exact sm_congr fun i _=>by rw [sm_left]; rfl
  have h2:(sm (n+2) fun i=>sm i fun j=>G (j+1) (i - (j+1)) (n+1 - i))=sm (n+1) (fun i=>sm (i+1) fun j=>G (j+1) (i - j) (n - i)):=by
   rw [sm_left,show sm 0 (fun j=>G (j+1) (0 - (j+1)) (n+1 - 0))=0 from rfl,zero_add]
   refine sm_congr fun i _=>sm_congr fun j _=>?_
   rw [show i+1 - (j+1)=i - j by omega,show n+1 - (i+1)=n - i by omega]
  have h3:(sm (n+1) fun j=>sm (n - j+1) fun k=>G (j+1) k (n - j - k))=sm (n+1) fun j=>sm (n+1 - (j+1)+1) fun k=>G (j+1) k (n+1 - (j+1) - k):=sm_congr fun j _=>by rw [show n+1 - (j+1)=n - j by omega]
  rw [h1,h2,tri n fun j=>G (j+1),h3]
  exact (sm_left (n+1) fun j=>sm (n+1 - j+1) fun k=>G j k (n+1 - j - k)).symm
def pmul (f g:Nat→K):Nat→K:=fun n=>sm (n+1) fun i=>(f i*g (n - i):K)
theorem Qgt:∀ (n:Nat) (f:Nat→K),sm (n+1) (fun i=>(f (n - i):K))=sm (n+1) f
 | 0,_=>rfl
 | n+1,f=>by
  have e:sm (n+1) (fun k=>f (n+1 - (k+1)))=sm (n+1) fun k=>f (n - k):=sm_congr fun k _=>by rw [show n+1 - (k+1)=n - k by omega]
  rw [sm_left,e,Qgt n f,Nat.sub_zero,add_comm]
  rfl
instance:Rg (PS K) where
 zero:=fun _=>(0:K)
 one:=fun n=>if n=0 then (1:K) else 0
 add f g:=fun n=>(f n+g n:K)
 neg f:=fun n=>(-(f n):K)
 mul f g:=pmul f g
 add_assoc a b c:=funext fun n=>add_assoc (a n:K) (b n) (c n)
 add_comm a b:=funext fun n=>add_comm (a n:K) (b n)
 zero_add a:=funext fun n=>zero_add (a n:K)
 neg_add a:=funext fun n=>QW (a n:K)
 mul_assoc a b c:=funext fun n=>by
  show sm (n+1) (fun i=>sm (i+1) (fun j=>(a j:K)*b (i - j))*c (n - i))=sm (n+1) fun j=>(a j:K)*sm (n - j+1) fun k=>b k*c (n - j - k)
  have h1:=tri n fun j k l=>((a j:K)*b k)*c l
  have h2:sm (n+1) (fun i=>sm (i+1) (fun j=>(a j:K)*b (i - j))*c (n - i))=sm (n+1) (fun i=>sm (i+1) fun j=>((a j:K)*b (i - j))*c (n - i)):=sm_congr fun i _=>(sm_mul' _ _ _).symm
  rw [h2,h1]
  refine sm_congr fun j _=>?_
  rw [← sm_mul]
  exact sm_congr fun k _=>mul_assoc _ _ _
 mul_comm a b:=funext fun n=>by
  show sm (n+1) (fun i=>(a i:K)*b (n - i))=sm (n+1) fun i=>(b i:K)*a (n - i)
  rw [← Qgt]
  refine sm_congr fun i hi=>?_
  rw [show n - (n - i)=i by omega,mul_comm]
 one_mul a:=funext fun n=>by
  show sm (n+1) (fun i=>(if i=0 then (1:K) else 0)*a (n - i))=a n
  rw [sm_one 0 (by omega) (fun j _ hj=>by rw [if_neg hj,zero_mul]),if_pos rfl,one_mul]; rfl
 mul_add a b c:=funext fun n=>by
  show sm (n+1) (fun i=>(a i:K)*(b (n - i)+c (n - i)))=sm (n+1) (fun i=>(a i:K)*b (n - i))+sm (n+1) fun i=>(a i:K)*c (n - i)
  rw [← JK]
  exact sm_congr fun i _=>mul_add _ _ _
theorem QiJ (f g:PS K) (n:Nat):(f*g) n=sm (n+1) fun i=>(f i:K)*g (n - i):=rfl
def two (a b:K):PS K:=fun n=>if n=0 then a else if n=1 then b else 0
theorem two_mul (a b:K) (f:PS K) (n:Nat):(two a b*f) (n+1)=a*(f (n+1):K)+b*f n:=by
 rw [QiJ,sm_left,sm_left,sm_zero fun k _=>by show (if k+1+1=0 then a else if k+1+1=1 then b else 0)*_=0; rw [if_neg (by omega),if_neg (by omega),zero_mul],add_zero]
 rfl
def cm (A:Mx K):Mx (PS K):=fun i j=>two (idm i j) (-(A i j))
def cp (n:Nat) (A:Mx K) (k:Nat):K:=(det n (cm A):PS K) k
end
end Go.Lr

/- The characteristic polynomial by traces (Faddeev and LeVerrier). No condition. -/
namespace Go.Lr
open Go.La (Mx setr Qq setr_ne swap swap_at swap_ne skip skip_lt Fld)
structure Der {R:Type} [Rg R] (D:R→R):Prop where
 add:∀ a b,D (a+b)=D a+D b
 mul:∀ a b,D (a*b)=D a*b+a*D b
section
variable {R:Type} [Rg R] {D:R→R}
end
section
variable {K:Type} [Rg K]
def adj (n:Nat) (M:Mx K):Mx K:=fun j k=>det n (setr M k (idm j))
theorem mul_adj {n:Nat} {M:Mx K} {i k:Nat} (hi:i < n) (hk:k < n):sm n (fun j=>M i j*adj n M j k)=if i=k then det n M else 0:=by
 rw [show sm n (fun j=>M i j*adj n M j k)=det n (setr M k (M i)) from ((det_alt n).row_exp hk M (M i)).symm]
 by_cases e:i=k
 ·subst e
  rw [if_pos rfl]
  congr 1
  funext a
  by_cases h:a=i
  ·subst h; exact Qq _ _ _
  ·exact setr_ne _ _ h
 ·rw [if_neg e]
  exact (det_alt n).eq hi hk e (by rw [Qq,setr_ne _ _ e])
end
end Go.Lr

/- The characteristic polynomial of a Hessenberg matrix. No condition. -/
namespace Go.Lr
open Go.La (Mx setr Qq setr_ne swap swap_at swap_ne skip skip_lt Fld)
section
variable {K:Type} [Rg K]
def prd (H:Mx K) (i:Nat):Nat→K
 | 0=>1
 | d+1=>prd H i d*H (i+d+1) (i+d)
def plc (H:Mx K) (k:Nat) (p:Nat→Nat→K) (t:Nat):K:=(if t=0 then 0 else p k (t - 1)) + -(H k k*p k t+sm k fun i=>prd H i (k - i)*H i k*p i t)
end
end Go.Lr

/- Residues modulo a prime: a field. No condition. -/
namespace Go.Fq
open Go.La (Fld)
structure Prm (p:Nat):Prop where
 two:2≤p
 div:∀ d,2≤d→d < p→p % d≠0
abbrev Pm:={p:Nat // Prm p}
structure Fp (P:Pm) where
 v:Nat
 lt:v < P.1
variable {P:Pm}
theorem Fp.ext {a b:Fp P} (h:a.v=b.v):a=b:=by cases a; cases b; simp only at h; subst h; rfl
theorem pos (P:Pm):(0:Int) < (P.1:Int):=by have:=P.2.two; omega
def of (P:Pm) (z:Int):Fp P:=⟨(z % (P.1:Int)).toNat,by
 have h1:=Int.emod_nonneg z (show (P.1:Int)≠0 by have:=pos P; omega)
 have h2:=Int.emod_lt_of_pos z (pos P)
 omega⟩
theorem YI (z:Int):((of P z).v:Int)=z % (P.1:Int):=by
 have h1:=Int.emod_nonneg z (show (P.1:Int)≠0 by have:=pos P; omega)
 show ((z % (P.1:Int)).toNat:Int)=_
 omega
theorem Qdr {x y:Int}:of P x=of P y↔x % (P.1:Int)=y % (P.1:Int):=by
 constructor
 ·intro h
  rw [← YI,← YI,h]
 ·intro h
  refine Fp.ext ?_
  have h1:=YI (P:=P) x
  have h2:=YI (P:=P) y
  omega
theorem of_v (a:Fp P):of P (a.v:Int)=a:=by
 refine Fp.ext ?_
 have h1:=YI (P:=P) (a.v:Int)
 rw [Int.emod_eq_of_lt (by omega) (by have:=a.lt; omega)] at h1
 omega
instance:Zero (Fp P):=⟨of P 0⟩
instance:One (Fp P):=⟨of P 1⟩
instance:Add (Fp P):=⟨fun a b=>of P ((a.v:Int)+b.v)⟩
instance:Mul (Fp P):=⟨fun a b=>of P ((a.v:Int)*b.v)⟩
instance:Neg (Fp P):=⟨fun a=>of P (-(a.v:Int))⟩
theorem Qdz:of P 0=0:=rfl
theorem Qba:of P 1=1:=rfl
theorem YT (x y:Int):of P (x+y)=of P x+of P y:=by
 show _=of P (((of P x).v:Int)+(of P y).v)
 rw [YI,YI]
 exact Qdr.2 (by rw [Int.add_emod])
theorem Js (x y:Int):of P (x*y)=of P x*of P y:=by
 show _=of P (((of P x).v:Int)*(of P y).v)
 rw [YI,YI]
 exact Qdr.2 (by rw [Int.mul_emod])
theorem QiC (x:Int):of P (-x) = -of P x:=by
 show _=of P (-((of P x).v:Int))
 rw [YI]
 exact Qdr.2 (by rw [Int.neg_emod_eq_sub_emod,Int.neg_emod_eq_sub_emod,Int.sub_emod,Int.sub_emod (P.1:Int) (x % _),Int.emod_emod_of_dvd x (Int.dvd_refl _)])
theorem Qcz:(0:Fp P).v=0:=by
 have:=YI (P:=P) 0
 rw [Int.zero_emod] at this
 have h:(of P 0).v=0:=by omega
 exact h
theorem Qjm:(1:Fp P).v=1:=by
 have h1:=YI (P:=P) 1
 have:=P.2.two
 rw [Int.emod_eq_of_lt (by omega) (by omega)] at h1
 have h:(of P 1).v=1:=by omega
 exact h
theorem QeA {a:Fp P}:a.v=0↔a=0:=⟨fun h=>Fp.ext (by rw [h,Qcz]),fun h=>by rw [h,Qcz]⟩
theorem vL (P:Pm):∀ a:Nat,0 < a→a < P.1→∃ x:Int,((a:Int)*x) % (P.1:Int)=1:=by
 intro a
 induction a using Nat.strongRecOn with
 | ind a ih =>
  intro h0 h1
  have h2:=P.2.two
  by_cases e:a=1
  ·subst e
   exact ⟨1,by rw [Int.emod_eq_of_lt (by omega) (by omega)]; rfl⟩
  ·have hr:=P.2.div a (by omega) h1
   obtain ⟨x,hx⟩:=ih (P.1 % a) (Nat.mod_lt _ h0) (by omega) (by have:=Nat.mod_lt P.1 h0; omega)
   refine ⟨-((P.1 / a:Nat):Int)*x,?_⟩
   rw [← hx]
   have e1:((P.1 % a:Nat):Int)=(P.1:Int) - (a:Int)*((P.1 / a:Nat):Int):=by
    have:=Nat.div_add_mod P.1 a
    rw [← Int.natCast_mul]
    omega
   have e2:(P.1:Int)*x+(a:Int)*(-((P.1 / a:Nat):Int)*x)=((P.1 % a:Nat):Int)*x:=by
    rw [e1,Int.sub_mul,Int.neg_mul,Int.mul_neg,Int.mul_assoc]
    omega
   rw [← e2,Int.add_comm,Int.add_mul_emod_self_left]
instance:Nonempty (Fp P):=⟨0⟩
noncomputable instance:Inv (Fp P):=⟨fun a=>Classical.epsilon fun x:Fp P=>a*x=1⟩
theorem Qfo (a:Fp P) (h:a≠0):a⁻¹*a=1:=by
 have hex:∃ x:Fp P,a*x=1:=by
  obtain ⟨x,hx⟩:=vL P a.v (by
   rcases Nat.eq_zero_or_pos a.v with h0 | h0
   ·exact absurd (QeA.1 h0) h
   ·exact h0) a.lt
  refine ⟨of P x,?_⟩
  have:=Js (P:=P) (a.v:Int) x
  rw [of_v] at this
  rw [← this,← Qba]
  have h2:=P.2.two
  exact Qdr.2 (by rw [hx,Int.emod_eq_of_lt (by omega) (by omega)])
 have hc:a*a⁻¹=1:=Classical.epsilon_spec hex
 show of P ((a⁻¹.v:Int)*(a.v:Int))=1
 rw [Int.mul_comm]
 exact hc
noncomputable instance:Fld (Fp P) where
 add_assoc a b c:=by rw [← of_v a,← of_v b,← of_v c,← YT,← YT,← YT,← YT,Int.add_assoc]
 add_comm a b:=by rw [← of_v a,← of_v b,← YT,← YT,Int.add_comm]
 zero_add a:=by rw [← of_v a,← Qdz,← YT,Int.zero_add]
 neg_add a:=by rw [← of_v a,← QiC,← YT,Int.add_left_neg,Qdz]
 mul_assoc a b c:=by rw [← of_v a,← of_v b,← of_v c,← Js,← Js,← Js,← Js,Int.mul_assoc]
 mul_comm a b:=by rw [← of_v a,← of_v b,← Js,← Js,Int.mul_comm]
 one_mul a:=by rw [← of_v a,← Qba,← Js,Int.one_mul]
 mul_add a b c:=by rw [← of_v a,← of_v b,← of_v c,← YT,← Js,← Js,← Js,← YT,Int.mul_add]
 inv_mul:=Qfo
 one_ne h:=by
  have h1:=Qjm (P:=P)
  have h2:=Qcz (P:=P)
  have h3:(1:Fp P).v=(0:Fp P).v:=congrArg Fp.v h
  omega
theorem Qjb {a x:Fp P} (h:a*x=1):a⁻¹=x:=by
 have ha:a≠0:=fun e=>La.one_ne (K:=Fp P) (by rw [← h,e,La.zero_mul])
 exact La.mul_left_can ha (by rw [h,La.mul_inv a ha])
theorem hom_q:Lr.Hom (fun z:Int=>(z:Rat)) where
 zero:=rfl
 one:=rfl
 add a b:=Rat.intCast_add a b
 mul a b:=Rat.intCast_mul a b
end Go.Fq

/- Trial division; the division that finds an inverse. No condition. -/
namespace Go.Fq
structure Eu (a m g r u v e:Int):Prop where
 e1:e=1∨e = -1
 g1:0≤g
 r0:0≤r
 eq:u*r - v*g=e*m
 up:0≤e*u
 vp:e*v≤0
 cg:m ∣ g - u*a
 cr:m ∣ r - v*a
 dv:∀ d:Int,d ∣ g→d ∣ r→d ∣ a∧d ∣ m
 ub : -m≤u∧u≤m
end Go.Fq

/- Remainders put together; primes by the sieve. No condition. -/
namespace Go.Fq
structure Sv (n p:Nat) (f:Nat→Bool):Prop where
 no:∀ k,k≤n→f k=true→¬ Prm k
 all:∀ q k,Prm q→q < p→q ∣ k→q*q≤k→k≤n→f k=true
end Go.Fq
