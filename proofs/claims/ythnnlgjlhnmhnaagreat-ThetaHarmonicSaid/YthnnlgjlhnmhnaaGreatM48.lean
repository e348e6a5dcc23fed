/- Texts of this seat's own, merged: each begins with its own remark. -/
import Derived.Test.YthnnlgjlhnmhnaaGreatM40
import Derived.Test.YthnnlgjlhnmhnaaGreatM19
import Derived.Test.YthnnlgjlhnmhnaaGreatM24
/- The inequality of Hadamard. No condition. -/
namespace Go.La
section
variable {K:Type} [Fld K]
theorem red_ex (n:Nat) (A:Mx K):∃ (r:Nat) (R:Mx K) (p:Nat→Nat) (d:K),Red n n n r A R p d:=by
 have main:∀ c,c≤n→∃ (r:Nat) (g:Mx K) (p:Nat→Nat) (d:K),r≤n∧Elm n n A c r g p (n - r) (fun s=>g (r+s))∧Rop n d A g:=by
  intro c
  induction c with
  | zero=>exact fun _=>⟨0,A,id,1,Nat.zero_le n,by simpa using Elm.start (R:=A) (p:=id) |> fun z=>z,Rop.refl n A⟩
  | succ c ih =>
   intro hc
   obtain ⟨r,g,p,d,hr,hE,hrop⟩:=ih (by omega)
   by_cases hz:∀ i,r≤i→i < n→g i c=0
   ·exact ⟨r,g,p,d,hr,hE.pass fun s hs=>hz (r+s) (by omega) (by omega),hrop⟩
   ·obtain ⟨i,hi⟩:=Classical.not_forall.1 hz
    have hri:r≤i:=by
     rcases Nat.lt_or_ge i r with h | h
     ·exact absurd (fun h1=>absurd h (by omega)) hi
     ·exact h
    have him:i < n:=by
     rcases Nat.lt_or_ge i n with h | h
     ·exact h
     ·exact absurd (fun _ h1=>absurd h (by omega)) hi
    have hq:g i c≠0:=fun e=>hi fun _ _=>e
    let g1:Mx K:=La.swap g r i
    have hg1:g1=La.swap g r i:=rfl
    have hgr:∀ j,g1 r j=g i j:=fun j=>by rw [hg1,La.swap_at.1]
    let P:Nat→K:=fun j=>(g1 r c)⁻¹*g1 r j
    have h1:∃ d1,Rop n d1 A g1:=by
     by_cases e:r=i
     ·subst e
      exact ⟨d,by rw [hg1,La.swap_self]; exact hrop⟩
     ·exact ⟨-d,hrop.swap (by omega) him e⟩
    obtain ⟨d1,h1⟩:=h1
    have h0:g1 r c≠0:=by rw [hgr]; exact hq
    exact ⟨r+1,La.gst g1 P c r n,fun t=>if t < r then p t else c,d1*g1 r c,by omega,
     hE.stepP (P:=P) hri him (by omega) hq (fun l _=>by show (g1 r c)⁻¹*g1 r l=_; rw [hgr,hgr]) (fun l _=>by rw [La.gst_r]) (fun t ht hne l _=>by rw [La.gst_lt hne ht,hg1]) (fun t ht=>if_pos ht) (if_neg (Nat.lt_irrefl r)),
     h1.step (by omega) h0 fun l _=>rfl⟩
 obtain ⟨r,g,p,d,hr,hE,hrop⟩:=main n (Nat.le_refl n)
 exact ⟨r,g,p,d,hE.red hr (Nat.le_refl n) (.inl rfl) fun _=>hrop⟩
theorem QcU {n:Nat} (A B:Mx K):det n (mm n A B)=det n A*det n B:=by
 obtain ⟨r,R,p,d,h⟩:=red_ex n A
 refine (h.rop rfl).det_mul ?_ B
 rcases Nat.lt_or_eq_of_le h.le with h1 | h1
 ·exact .inr ⟨n - 1,by omega,fun j hj=>h.zero (n - 1) j (by omega) (by omega) hj⟩
 ·subst h1; exact .inl h.ech.full.2
end
def pd:Nat→(Nat→Rat)→Rat
 | 0,_=>1
 | n+1,f=>pd n f*f n
theorem Qax:∀ {n:Nat} {f:Nat→Rat},(∀ i,i < n→0≤f i)→0≤pd n f
 | 0,_,_=>by show (0:Rat)≤1; decide
 | n+1,f,h=>Rat.mul_nonneg (Qax fun i hi=>h i (by omega)) (h n (by omega))
theorem QgB:∀ {n:Nat} {f g:Nat→Rat},(∀ i,i < n→0≤f i∧f i≤g i)→pd n f≤pd n g
 | 0,_,_,_=>Rat.le_refl
 | n+1,f,g,h=>by
  have h1:=QgB (n:=n) (f:=f) (g:=g) fun i hi=>h i (by omega)
  have h2:=h n (by omega)
  have h3:=Qax (n:=n) (f:=f) fun i hi=>(h i (by omega)).1
  have h4:pd n f*f n≤pd n f*g n:=Rat.mul_le_mul_of_nonneg_left h2.2 h3
  have h5:pd n f*g n≤pd n g*g n:=Rat.mul_le_mul_of_nonneg_right h1 (Rat.le_trans h2.1 h2.2)
  exact Rat.le_trans h4 h5
theorem QgN:∀ (n:Nat) (f g:Nat→Rat),pd n (fun i=>f i*g i)=pd n f*pd n g
 | 0,_,_=>by exact (Rat.mul_one 1).symm
 | n+1,f,g=>by show pd n _*_=pd n f*f n*(pd n g*g n); rw [QgN n f g]; grind
theorem vJ:∀ {n:Nat} {f g:Nat→Rat},(∀ i,i < n→f i=g i)→pd n f=pd n g
 | 0,_,_,_=>rfl
 | n+1,f,g,h=>by show pd n f*f n=pd n g*g n; rw [vJ fun i hi=>h i (by omega),h n (by omega)]
theorem yW:∀ {n:Nat} {D:Mx Rat},(∀ i j,i < n→j < n→i≠j→D i j=0)→det n D=pd n fun i=>D i i
 | 0,_,_=>rfl
 | n+1,D,h=>by
  rw [← Lr.det_la,Lr.det_last fun j hj=>h n j (by omega) (by omega) (by omega),Lr.det_la,yW fun i j hi hj=>h i j (by omega) (by omega)]
  rfl
def ip (n:Nat) (x y:Nat→Rat):Rat:=sm n fun j=>x j*y j
theorem yD (n:Nat) (x y:Nat→Rat):ip n x y=ip n y x:=sm_congr fun _ _=>Rat.mul_comm _ _
theorem QaW (n:Nat) (x y z:Nat→Rat) (t:Rat):ip n (fun j=>x j+t*y j) z=ip n x z+t*ip n y z:=by
 unfold ip
 rw [← sm_mul,← JK]
 exact sm_congr fun j _=>by show (x j+t*y j)*z j=x j*z j+t*(y j*z j); grind
theorem Qbg (n:Nat) (x:Nat→Rat):0≤ip n x x:=qQ fun _ _=>sq_nonneg _
theorem Qhm {n:Nat} {x:Nat→Rat} (h:ip n x x=0) (y:Nat→Rat):ip n y x=0:=by
 refine sm_zero fun j hj=>?_
 by_cases e:x j=0
 ·rw [e,Rat.mul_zero]
 ·have:=QcB (n:=n) (f:=fun j=>x j*x j) (fun k _=>sq_nonneg _) hj (sq_pos e)
  unfold ip at h
  rw [h] at this
  exact absurd this (by decide)
theorem ortho (n:Nat) (A:Mx Rat):∀ k,k≤n→∃ B:Mx Rat,det n B=det n A∧(∀ i j,i < k→j < i→ip n (B i) (B j)=0)∧(∀ i,ip n (B i) (B i)≤ip n (A i) (A i)):=by
 intro k
 induction k with
 | zero=>exact fun _=>⟨A,rfl,fun i j h=>absurd h (Nat.not_lt_zero i),fun i=>Rat.le_refl⟩
 | succ k ih =>
  intro hk
  obtain ⟨B,h1,h2,h3⟩:=ih (by omega)
  have main:∀ l,l≤k→∃ C:Mx Rat,det n C=det n A∧(∀ i,i≠k→C i=B i)∧(∀ j,j < l→ip n (C k) (B j)=0)∧ip n (C k) (C k)≤ip n (B k) (B k):=by
   intro l
   induction l with
   | zero=>exact fun _=>⟨B,h1,fun _ _=>rfl,fun j h=>absurd h (Nat.not_lt_zero j),Rat.le_refl⟩
   | succ l ih =>
    intro hl
    obtain ⟨C,k1,k2,k3,k4⟩:=ih (by omega)
    by_cases e:ip n (B l) (B l)=0
    ·refine ⟨C,k1,k2,fun j hj=>?_,k4⟩
     rcases Nat.lt_or_eq_of_le (Nat.le_of_lt_succ hj) with h | h
     ·exact k3 j h
     ·subst h; exact Qhm e _
    ·obtain ⟨t,ht⟩:∃ t:Rat,ip n (C k) (B l)+t*ip n (B l) (B l)=0:=⟨-(ip n (C k) (B l) / ip n (B l) (B l)),by
      rw [Rat.neg_mul,Rat.div_mul_cancel e]; grind⟩
     have hCl:C l=B l:=k2 l (by omega)
     refine ⟨setr C k (fun j=>C k j+t*C l j),by rw [(det_alt n).comb (by omega) (by omega) (by omega),k1],fun i hi=>by rw [setr_ne _ _ hi]; exact k2 i hi,fun j hj=>?_,?_⟩
     ·rw [Qq,hCl,QaW]
      rcases Nat.lt_or_eq_of_le (Nat.le_of_lt_succ hj) with h | h
      ·rw [k3 j h,h2 l j (by omega) h]; grind
      ·subst h; exact ht
     ·rw [Qq,hCl,QaW,yD n (C k),QaW,yD n (B l) (fun j=>C k j+t*B l j),QaW,ht,yD n (B l) (C k)]
      have hs:=Qbg n (B l)
      have hq:=sq_nonneg t
      have:0≤t*t*ip n (B l) (B l):=Rat.mul_nonneg hq hs
      have e2:t*ip n (C k) (B l) = -(t*t*ip n (B l) (B l)):=by
       have e3:ip n (C k) (B l) = -(t*ip n (B l) (B l)):=by grind
       rw [e3]; grind
      grind
  obtain ⟨C,k1,k2,k3,k4⟩:=main k (Nat.le_refl k)
  refine ⟨C,k1,fun i j hi hj=>?_,fun i=>?_⟩
  ·rcases Nat.lt_or_eq_of_le (Nat.le_of_lt_succ hi) with h | h
   ·rw [k2 i (by omega),k2 j (by omega)]; exact h2 i j h hj
   ·subst h; rw [k2 j (by omega)]; exact k3 j hj
  ·by_cases e:i=k
   ·subst e; exact Rat.le_trans k4 (h3 i)
   ·rw [k2 i e]; exact h3 i
theorem hadamard (n:Nat) (A:Mx Rat):det n A*det n A≤pd n fun i=>ip n (A i) (A i):=by
 obtain ⟨B,h1,h2,h3⟩:=ortho n A n (Nat.le_refl n)
 have e:det n A*det n A=pd n fun i=>ip n (B i) (B i):=by
  rw [← h1]
  conv=>lhs; rhs; rw [← det_tr]
  rw [← QcU]
  refine yW fun i j hi hj hne=>?_
  show ip n (B i) (B j)=0
  rcases Nat.lt_or_gt_of_ne hne with h | h
  ·rw [yD]; exact h2 j i hj h
  ·exact h2 i j hi h
 rw [e]
 exact QgB fun i _=>⟨Qbg _ _,h3 i⟩
end Go.La

/- Fractions whose denominators a prime does not divide; ranks of residues. No condition. -/
namespace Go.Fq
open Go.La (Fld Mx setr Qq setr_ne)
variable {P:Pm}
noncomputable def ofQ (P:Pm) (q:Rat):Fp P:=of P q.num*(of P (q.den:Int))⁻¹
def Loc (P:Pm) (q:Rat):Prop:=of P (q.den:Int)≠0
theorem Qch (q:Rat):q*((q.den:Int):Rat)=(q.num:Rat):=by
 have h0:((q.den:Int):Rat)≠0:=by
  rw [Rat.intCast_natCast]
  have:=q.den_nz
  intro e
  exact this (Rat.natCast_eq_zero_iff.1 e)
 have h:=Rat.num_divInt_den q
 rw [Rat.divInt_eq_div] at h
 have h1:(q.num:Rat) / ((q.den:Int):Rat)*((q.den:Int):Rat)=(q.num:Rat):=Rat.div_mul_cancel h0
 rw [h] at h1
 exact h1
theorem QdA {q:Rat} {a b:Int} (h:q*(b:Rat)=(a:Rat)):q.num*b=a*(q.den:Int):=by
 refine Rat.intCast_inj.1 ?_
 rw [Rat.intCast_mul,Rat.intCast_mul,← Qch q,← h]
 grind
theorem QhX {q:Rat} {a b:Int} (h:q*(b:Rat)=(a:Rat)):(q.den:Int) ∣ b:=by
 have h1:=QdA h
 have h2:q.den ∣ q.num.natAbs*b.natAbs:=by
  rw [← Int.natAbs_mul,h1,Int.natAbs_mul]
  exact Nat.dvd_mul_left ..
 have h3:=(Nat.Coprime.symm q.reduced).dvd_of_dvd_mul_left h2
 exact Int.natAbs_dvd_natAbs.1 (by simpa using h3)
theorem QcO {q:Rat} {a b:Int} (h:q*(b:Rat)=(a:Rat)) (hb:of P b≠0):Loc P q∧ofQ P q=of P a*(of P b)⁻¹:=by
 have hl:Loc P q:=by
  obtain ⟨k,hk⟩:=QhX h
  intro e
  exact hb (by rw [hk,Js,e,La.zero_mul])
 refine ⟨hl,?_⟩
 have h1:of P q.num*of P b=of P a*of P (q.den:Int):=by rw [← Js,QdA h,Js]
 unfold ofQ
 refine La.mul_left_can hb ?_
 refine La.mul_left_can hl ?_
 rw [La.mul_left_comm (of P b),La.mul_comm (of P b) ((of P (q.den:Int))⁻¹),La.mul_left_comm (of P (q.den:Int)),← La.mul_assoc (of P (q.den:Int)),La.mul_inv _ hl,La.one_mul,h1,La.mul_left_comm (of P b),La.mul_inv _ hb,La.mul_one,La.mul_comm]
theorem QaQ (z:Int):Loc P (z:Rat)∧ofQ P (z:Rat)=of P z:=by
 have h:=QcO (P:=P) (q:=(z:Rat)) (a:=z) (b:=1) (by rw [show ((1:Int):Rat)=1 from rfl,Rat.mul_one]) (by rw [Qba]; exact La.one_ne)
 refine ⟨h.1,h.2.trans ?_⟩
 rw [Qba,Qjb (La.one_mul 1),La.mul_one]
theorem Qhp {q r:Rat} (hq:Loc P q) (hr:Loc P r):Loc P (q+r)∧ofQ P (q+r)=ofQ P q+ofQ P r:=by
 have hb:of P ((q.den:Int)*(r.den:Int))≠0:=by rw [Js]; exact La.mul_ne hq hr
 have h:=QcO (P:=P) (q:=q+r) (a:=q.num*(r.den:Int)+r.num*(q.den:Int)) (b:=(q.den:Int)*(r.den:Int)) (by
  rw [Rat.intCast_add,Rat.intCast_mul,Rat.intCast_mul,Rat.intCast_mul,← Qch q,← Qch r]
  grind) hb
 refine ⟨h.1,h.2.trans ?_⟩
 unfold ofQ
 refine La.mul_left_can hb ?_
 rw [La.mul_left_comm,La.mul_inv _ hb,La.mul_one,YT,Js,Js,Js,La.mul_add]
 congr 1
 ·rw [La.mul_assoc,La.mul_left_comm (of P (r.den:Int)),← La.mul_assoc (of P (q.den:Int)),La.mul_comm (of P (q.den:Int)),La.mul_assoc,La.mul_left_comm (of P (q.den:Int)),La.mul_inv _ hq,La.mul_one,La.mul_comm]
 ·rw [La.mul_assoc,La.mul_left_comm (of P (r.den:Int)),La.mul_inv _ hr,La.mul_one,La.mul_comm]
theorem Qdc {q r:Rat} (hq:Loc P q) (hr:Loc P r):Loc P (q*r)∧ofQ P (q*r)=ofQ P q*ofQ P r:=by
 have hb:of P ((q.den:Int)*(r.den:Int))≠0:=by rw [Js]; exact La.mul_ne hq hr
 have h:=QcO (P:=P) (q:=q*r) (a:=q.num*r.num) (b:=(q.den:Int)*(r.den:Int)) (by
  rw [Rat.intCast_mul,Rat.intCast_mul,← Qch q,← Qch r]
  grind) hb
 refine ⟨h.1,h.2.trans ?_⟩
 unfold ofQ
 refine La.mul_left_can hb ?_
 rw [La.mul_left_comm,La.mul_inv _ hb,La.mul_one,Js,Js]
 rw [La.mul_assoc,La.mul_assoc (of P q.num),La.mul_left_comm (of P (r.den:Int)),La.mul_left_comm (of P (q.den:Int)),La.mul_left_comm (of P (r.den:Int)) ((of P (q.den:Int))⁻¹),← La.mul_assoc (of P (q.den:Int)),La.mul_inv _ hq,La.one_mul,La.mul_left_comm (of P (r.den:Int)),La.mul_inv _ hr,La.mul_one]
theorem QhW {q:Rat} (hq:Loc P q):Loc P (-q):=by
 have h:=(Qdc (QaQ (P:=P) (-1)).1 hq).1
 rwa [show ((-1:Int):Rat)*q = -q by rw [show ((-1:Int):Rat) = -1 from rfl]; grind] at h
def Zl (P:Pm):Type:={q:Rat // Loc P q}
instance:Lr.Rg (Zl P) where
 zero:=⟨((0:Int):Rat),(QaQ 0).1⟩
 one:=⟨((1:Int):Rat),(QaQ 1).1⟩
 add a b:=⟨a.1+b.1,(Qhp a.2 b.2).1⟩
 mul a b:=⟨a.1*b.1,(Qdc a.2 b.2).1⟩
 neg a:=⟨-a.1,QhW a.2⟩
 add_assoc _ _ _:=Subtype.ext (Rat.add_assoc ..)
 add_comm _ _:=Subtype.ext (Rat.add_comm ..)
 zero_add _:=Subtype.ext (Rat.zero_add _)
 neg_add _:=Subtype.ext (Rat.neg_add_cancel _)
 mul_assoc _ _ _:=Subtype.ext (Rat.mul_assoc ..)
 mul_comm _ _:=Subtype.ext (Rat.mul_comm ..)
 one_mul _:=Subtype.ext (Rat.one_mul _)
 mul_add _ _ _:=Subtype.ext (Rat.mul_add ..)
theorem det_indep {K:Type} [Fld K] {s:Nat} {T:Mx K} (h:La.det s T≠0) {x:Nat→K} (hx:∀ j,j < s→La.sm s (fun i=>x i*T i j)=0):∀ i,i < s→x i=0:=by
 intro t ht
 have h1:=(Lr.det_alt s).comb_sum ht T x T s
 have h0:Lr.det s (setr T t fun l=>Lr.sm s fun j=>x j*T j l)=0:=(Lr.det_alt s).zero ht fun j hj=>by
  rw [Qq,Lr.sm_la]; exact hx j hj
 rw [h0,Lr.sm_one t ht fun j hj hne=>by
  rw [(Lr.det_alt s).eq (A:=setr T t (T j)) (p:=t) (q:=j) ht hj (Ne.symm hne) (by rw [Qq,setr_ne _ _ hne]),Lr.mul_zero]] at h1
 have e:setr T t (T t)=T:=by
  funext a
  by_cases e:a=t
  ·subst e; exact Qq _ _ _
  ·exact setr_ne _ _ e
 rw [e,Lr.det_la] at h1
 rcases La.mul_eq_zero h1.symm with h2 | h2
 ·exact h2
 ·exact absurd h2 h
end Go.Fq

/- Rational reconstruction: what the division of the modulus by the residue finds. No condition. -/
namespace Go.Rc
structure Rec (x m most last n before d e:Int):Prop where
 e1:e=1∨e = -1
 det:last*d - n*before=e*m
 n0:0≤n
 nl:n < last
 big:most < last
 dp:1≤e*d
 bp:e*before≤0
 cn:m ∣ n - d*x
 cl:m ∣ last - before*x
theorem vQ {a b c d:Int} (h1 : -c≤a) (h2:a≤c) (h3:0≤b) (h4:b≤d) : -(c*d)≤a*b∧a*b≤c*d:=by
 have h0:0≤c:=by omega
 have e1:c*b≤c*d:=Int.mul_le_mul_of_nonneg_left h4 h0
 have e2:a*b≤c*b:=Int.mul_le_mul_of_nonneg_right h2 h3
 have e3 : -c*b≤a*b:=Int.mul_le_mul_of_nonneg_right h1 h3
 rw [Int.neg_mul] at e3
 omega
theorem unique {x m most n1 d1 n2 d2:Int} (hm:2*(most*most) < m) (h1 : -most≤n1) (h2:n1≤most) (h3:0≤d1) (h4:d1≤most) (k1 : -most≤n2) (k2:n2≤most) (k3:0≤d2) (k4:d2≤most) (c1:m ∣ n1 - d1*x) (c2:m ∣ n2 - d2*x):n1*d2=n2*d1:=by
 have c:m ∣ n1*d2 - n2*d1:=by
  have e1:n1*d2 - n2*d1=(n1 - d1*x)*d2 - (n2 - d2*x)*d1:=by
   rw [Int.sub_mul,Int.sub_mul,show d2*x*d1=d1*x*d2 by rw [Int.mul_comm,← Int.mul_assoc,Int.mul_comm d1 d2,Int.mul_assoc,Int.mul_comm d2,Int.mul_comm]]
   omega
  rw [e1]
  exact Int.dvd_sub (Int.dvd_mul_of_dvd_left c1) (Int.dvd_mul_of_dvd_left c2)
 obtain ⟨k,hk⟩:=c
 have b1:=vQ h1 h2 k3 k4
 have b2:=vQ k1 k2 h3 h4
 have hm0:0 < m:=by
  have:=Int.mul_nonneg (show 0≤most by omega) (show 0≤most by omega)
  omega
 have hkz:k=0:=by
  rcases Int.lt_trichotomy k 0 with h2 | h2 | h2
  ·have:=Int.mul_le_mul_of_nonneg_left (show k ≤ -1 by omega) (Int.le_of_lt hm0)
   omega
  ·exact h2
  ·have:=Int.mul_le_mul_of_nonneg_left (show 1≤k by omega) (Int.le_of_lt hm0)
   omega
 rw [hkz,Int.mul_zero] at hk
 omega
end Go.Rc

/- Steps to Hessenberg form. No condition. -/
namespace Go.Lr
open Go.La (Mx setr Qq setr_ne Fld)
section
variable {K:Type} [Fld K]
end
end Go.Lr

/- Characteristic polynomials by traces: multiples of a matrix, integers, and how great they are. No condition. -/
namespace Go.Lr
open Go.La (Mx setr Qq setr_ne swap swap_at swap_ne skip skip_lt Fld)
section
variable {K:Type} [Rg K]
def pw (t:K):Nat→K
 | 0=>1
 | n+1=>t*pw t n
end
section
variable {K:Type} [Rg K]
end
end Go.Lr

/- The polynomials of a matrix in Hessenberg form, one after another. No condition. -/
namespace Go.Lr
open Go.La (Mx setr Qq setr_ne swap swap_at swap_ne skip skip_lt Fld)
variable {K:Type} [Rg K]
def pol (H:Mx K):Nat→Nat→Nat→K
 | 0=>fun _ t=>if t=0 then 1 else 0
 | k+1=>fun i t=>if i≤k then pol H k i t else plc H k (pol H k) t
def pl (H:Mx K) (i:Nat):Nat→K:=pol H i i
end Go.Lr
