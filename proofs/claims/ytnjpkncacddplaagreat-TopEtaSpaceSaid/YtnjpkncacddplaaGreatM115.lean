/- Texts of this seat's own, merged: each begins with its own remark. -/
import Derived.KernelRfl
import Derived.Test.YtnjpkncacddplaaGreatM48
import Derived.Test.YtnjpkncacddplaaGreatM50
import Derived.Test.YtnjpkncacddplaaGreatM40
/- Rationals that are integral at 2. Plain. -/
namespace Go.Tw
def I2 (x:Rat):Prop:=∃ (a b:Int),b % 2=1∧x*(b:Rat)=(a:Rat)
theorem QeV {b:Int} (h:b % 2=1):((b:Int):Rat)≠0:=fun e=>by
 have:b=0:=Rat.intCast_inj.1 (e.trans (show (0:Rat)=((0:Int):Rat) from rfl))
 omega
theorem qb {a b:Int} (ha:a % 2=1) (hb:b % 2=1):(a*b) % 2=1:=by
 rw [Int.mul_emod,ha,hb]; rfl
theorem I2.int (z:Int):I2 (z:Rat):=⟨z,1,rfl,by rw [show ((1:Int):Rat)=1 from rfl,Rat.mul_one]⟩
theorem I2.add {x y:Rat} (hx:I2 x) (hy:I2 y):I2 (x+y):=by
 obtain ⟨a,b,hb,e⟩:=hx
 obtain ⟨c,d,hd,f⟩:=hy
 refine ⟨a*d+c*b,b*d,qb hb hd,?_⟩
 rw [Rat.intCast_add,Rat.intCast_mul,Rat.intCast_mul,Rat.intCast_mul,← e,← f]
 grind
theorem I2.mul {x y:Rat} (hx:I2 x) (hy:I2 y):I2 (x*y):=by
 obtain ⟨a,b,hb,e⟩:=hx
 obtain ⟨c,d,hd,f⟩:=hy
 refine ⟨a*c,b*d,qb hb hd,?_⟩
 rw [Rat.intCast_mul,Rat.intCast_mul,← e,← f]
 grind
theorem I2.neg {x:Rat} (hx:I2 x):I2 (-x):=by
 have h:=(I2.int (-1)).mul hx
 rwa [show ((-1:Int):Rat)*x = -x by rw [show ((-1:Int):Rat) = -1 from rfl]; grind] at h
theorem I2.zero:I2 0:=I2.int 0
theorem I2.one:I2 1:=I2.int 1
theorem I2.sub {x y:Rat} (hx:I2 x) (hy:I2 y):I2 (x - y):=by
 rw [Rat.sub_eq_add_neg]; exact hx.add hy.neg
def U2 (x:Rat):Prop:=∃ (a b:Int),a % 2=1∧b % 2=1∧x*(b:Rat)=(a:Rat)
theorem U2.i2 {x:Rat} (h:U2 x):I2 x:=by
 obtain ⟨a,b,-,h2,h3⟩:=h
 exact ⟨a,b,h2,h3⟩
theorem U2.ne {x:Rat} (h:U2 x):x≠0:=fun e=>by
 obtain ⟨a,b,h1,h2,h3⟩:=h
 rw [e,Rat.zero_mul] at h3
 exact QeV h1 h3.symm
theorem U2.inv {x:Rat} (h:U2 x):U2 x⁻¹:=by
 have h0:=h.ne
 obtain ⟨a,b,h1,h2,h3⟩:=h
 refine ⟨b,a,h2,h1,?_⟩
 rw [← h3,← Rat.mul_assoc,Rat.inv_mul_cancel _ h0,Rat.one_mul]
theorem U2.mul {x y:Rat} (hx:U2 x) (hy:U2 y):U2 (x*y):=by
 obtain ⟨a,b,ha,hb,e⟩:=hx
 obtain ⟨c,d,hc,hd,f⟩:=hy
 refine ⟨a*c,b*d,qb ha hc,qb hb hd,?_⟩
 rw [Rat.intCast_mul,Rat.intCast_mul,← e,← f]
 grind
def E2 (x:Rat):Prop:=I2 (x / 2)
theorem E2.i2 {x:Rat} (h:E2 x):I2 x:=by
 have:=h.add h
 rwa [show x / 2+x / 2=x by grind] at this
theorem E2.add {x y:Rat} (hx:E2 x) (hy:E2 y):E2 (x+y):=by
 have:=I2.add hx hy
 rwa [show x / 2+y / 2=(x+y) / 2 by grind] at this
theorem E2.mul {x y:Rat} (hx:E2 x) (hy:I2 y):E2 (x*y):=by
 have:=I2.mul hx hy
 rwa [show x / 2*y=(x*y) / 2 by grind] at this
theorem E2.two {x:Rat} (hx:I2 x):E2 (2*x):=by
 show I2 (2*x / 2)
 rwa [show 2*x / 2=x by grind]
theorem E2.neg {x:Rat} (hx:E2 x):E2 (-x):=by
 have:=I2.neg hx
 rwa [show -(x / 2) = -x / 2 by grind] at this
theorem E2.zero:E2 0:=by
 show I2 (0 / 2)
 rw [show (0:Rat) / 2=0 by grind]; exact I2.zero
theorem qE {x:Rat} (h:U2 x) (h2:E2 x):False:=by
 obtain ⟨a,b,ha,hb,e⟩:=h
 obtain ⟨c,d,hd,f⟩:=h2
 have:((a*d:Int):Rat)=((2*c*b:Int):Rat):=by
  rw [Rat.intCast_mul,Rat.intCast_mul,Rat.intCast_mul,← e,← f,show ((2:Int):Rat)=2 from rfl]
  grind
 have:=Rat.intCast_inj.1 this
 have h1:=qb ha hd
 rw [this,Int.mul_assoc,Int.mul_emod_right] at h1
 omega
theorem ue {x:Rat} (h:I2 x):U2 x∨E2 x:=by
 obtain ⟨a,b,hb,e⟩:=h
 rcases show a % 2=1∨a % 2=0 by omega with h | h
 ·exact .inl ⟨a,b,h,hb,e⟩
 ·right
  refine ⟨a / 2,b,hb,?_⟩
  have h2:a=2*(a / 2):=by omega
  obtain ⟨c,hc⟩:∃ c,c=a / 2:=⟨_,rfl⟩
  rw [← hc] at h2 ⊢
  rw [h2,Rat.intCast_mul,show ((2:Int):Rat)=2 from rfl] at e
  grind
theorem QcP {x y:Rat} (hx:x≠0) (hy:y≠0):I2 (x / y)∨I2 (y / x):=by
 obtain ⟨q,hq⟩:∃ q,q=x / y:=⟨_,rfl⟩
 have hq0:q≠0:=fun e=>by
  rw [hq] at e
  have:x=x / y*y:=by rw [Rat.div_mul_cancel hy]
  rw [e,Rat.zero_mul] at this
  exact hx this
 have hqi:y / x=q⁻¹:=by rw [hq]; grind
 rw [hqi,← hq]
 have hd:q*((q.den:Int):Rat)=(q.num:Rat):=by
  have h0:((q.den:Int):Rat)≠0:=fun e=>by
   have:(q.den:Int)=0:=Rat.intCast_inj.1 (e.trans (show (0:Rat)=((0:Int):Rat) from rfl))
   have:=q.den_nz
   omega
  have h:=Rat.num_divInt_den q
  rw [Rat.divInt_eq_div] at h
  have h1:(q.num:Rat) / ((q.den:Int):Rat)*((q.den:Int):Rat)=(q.num:Rat):=Rat.div_mul_cancel h0
  rw [h] at h1
  exact h1
 rcases show (q.den:Int) % 2=1∨(q.den:Int) % 2=0 by omega with h | h
 ·exact .inl ⟨q.num,q.den,h,hd⟩
 ·right
  have hc:=q.reduced
  have hn:q.num % 2=1:=by
   rcases show q.num % 2=1∨q.num % 2=0 by omega with h1 | h1
   ·exact h1
   ·have d1:2 ∣ q.num.natAbs:=by omega
    have d2:2 ∣ q.den:=by omega
    have:=Nat.dvd_gcd d1 d2
    rw [Nat.Coprime.gcd_eq_one hc] at this
    omega
  refine ⟨q.den,q.num,hn,?_⟩
  rw [← hd,← Rat.mul_assoc,Rat.inv_mul_cancel _ hq0,Rat.one_mul]
def F4 (x:Rat):Prop:=I2 ((x - 1) / 4)
theorem F4.i2 {x:Rat} (h:F4 x):I2 x:=by
 have:=((I2.int 4).mul h).add I2.one
 rwa [show ((4:Int):Rat)*((x - 1) / 4)+1=x by rw [show ((4:Int):Rat)=4 from rfl]; grind] at this
theorem F4.u2 {x:Rat} (h:F4 x):U2 x:=by
 rcases ue h.i2 with h1 | h1
 ·exact h1
 ·exfalso
  have h2:E2 (1:Rat):=by
   have h3:=h1.add (E2.two ((I2.int 2).mul (I2.neg h)))
   rwa [show x+2*(((2:Int):Rat) * -((x - 1) / 4))=1 by rw [show ((2:Int):Rat)=2 from rfl]; grind] at h3
  exact qE ⟨1,1,rfl,rfl,by rw [show ((1:Int):Rat)=1 from rfl,Rat.mul_one]⟩ h2
theorem F4.mul {x y:Rat} (hx:F4 x) (hy:F4 y):F4 (x*y):=by
 have h:=(I2.mul hx hy.i2).add hy
 rwa [show (x - 1) / 4*y+(y - 1) / 4=(x*y - 1) / 4 by grind] at h
theorem F4.sq {x:Rat} (h:U2 x):F4 (x*x):=by
 obtain ⟨a,b,ha,hb,e⟩:=h
 refine ⟨(a*a - b*b) / 4,b*b,qb hb hb,?_⟩
 have h4:∃ k,a*a - b*b=4*k:=by
  obtain ⟨u,hu⟩:∃ u,a=2*u+1:=⟨a / 2,by omega⟩
  obtain ⟨v,hv⟩:∃ v,b=2*v+1:=⟨b / 2,by omega⟩
  exact ⟨u*u+u - v*v - v,by rw [hu,hv]; grind⟩
 obtain ⟨k,hk⟩:=h4
 rw [hk,Int.mul_ediv_cancel_left _ (by decide),Rat.intCast_mul]
 have:((a*a - b*b:Int):Rat)=((4*k:Int):Rat):=by rw [hk]
 rw [Rat.intCast_sub,Rat.intCast_mul,Rat.intCast_mul,Rat.intCast_mul,← e,show ((4:Int):Rat)=4 from rfl] at this
 grind
end Go.Tw

/- Even forms at 2: pieces. Plain. -/
namespace Go.Tw
open Go.La (Mx sm det mm idm)
theorem Qje:∀ {n:Nat} {f:Nat→Rat},(∀ k,k < n→I2 (f k))→I2 (sm n f)
 | 0,_,_=>I2.zero
 | n+1,f,h=>(Qje (n:=n) fun k hk=>h k (by omega)).add (h n (by omega))
theorem yX {Y:Mx Rat} {q:Nat→Rat}:∀ {n:Nat},(∀ i j,i < n→j < n→Y i j=Y j i)→(∀ i j,i < n→j < n→I2 (Y i j))→(∀ i,i < n→E2 (Y i i))→(∀ i,i < n→I2 (q i)) →
  E2 (sm n fun k=>q k*sm n fun l=>Y k l*q l)
 | 0,_,_,_,_=>E2.zero
 | n+1,hs,hi,he,hq=>by
  have ih:=yX (Y:=Y) (q:=q) (n:=n) (fun i j h1 h2=>hs i j (by omega) (by omega)) (fun i j h1 h2=>hi i j (by omega) (by omega)) (fun i h=>he i (by omega)) (fun i h=>hq i (by omega))
  obtain ⟨T,hT⟩:∃ T,T=sm n fun l=>Y n l*q l:=⟨_,rfl⟩
  have iT:I2 T:=by rw [hT]; exact Qje fun k hk=>(hi n k (by omega) (by omega)).mul (hq k (by omega))
  have e1:(sm n fun k=>q k*sm (n+1) fun l=>Y k l*q l)=(sm n fun k=>q k*sm n fun l=>Y k l*q l)+T*q n:=by
   have e2:(sm n fun k=>q k*sm (n+1) fun l=>Y k l*q l)=sm n fun k=>q k*(sm n fun l=>Y k l*q l)+Y n k*q k*q n:=La.sm_congr fun k hk=>by
    show q k*(sm n (fun l=>Y k l*q l)+Y k n*q n)=q k*(sm n fun l=>Y k l*q l)+Y n k*q k*q n
    rw [hs k n (by omega) (by omega)]
    grind
   rw [e2]
   refine (La.sm_add n _ _).trans ?_
   rw [hT]
   exact congrArg _ (La.sm_mul' n (q n) fun k=>Y n k*q k)
  have e3:(sm (n+1) fun k=>q k*sm (n+1) fun l=>Y k l*q l)=(sm n fun k=>q k*sm n fun l=>Y k l*q l)+(2*(q n*T)+Y n n*(q n*q n)):=by
   show (sm n fun k=>q k*sm (n+1) fun l=>Y k l*q l)+q n*(sm n (fun l=>Y n l*q l)+Y n n*q n)=_
   rw [e1,← hT]
   grind
  rw [e3]
  exact ih.add ((E2.two ((hq n (by omega)).mul iT)).add ((he n (by omega)).mul ((hq n (by omega)).mul (hq n (by omega)))))
inductive Spl (e:Rat):Nat→Rat→Prop
 | nil:Spl e 0 1
 | one {n:Nat} {a d:Rat} (h0:a≠0) (h1:E2 a) (h2:E2 (e / a)) (h:Spl e n d):Spl e (n+1) (a*d)
 | two {n:Nat} {z u d:Rat} (h0:z≠0) (h1:F4 u) (h:Spl e n d):Spl e (n+2) (-(z*z*u)*d)
def sg:Nat→Rat
 | 0=>1
 | m+1 => -sg m
theorem yP:¬ I2 (1 / 2):=fun h=>by
 have h1:E2 (1:Rat):=h
 exact qE ⟨1,1,rfl,rfl,by rw [show ((1:Int):Rat)=1 from rfl,Rat.mul_one]⟩ h1
theorem F4.one:F4 1:=by
 show I2 ((1 - 1) / 4)
 rw [show ((1:Rat) - 1) / 4=0 by grind]; exact I2.zero
theorem Spl.small {e:Rat} (he:e=1∨e=2) {n:Nat} {d:Rat} (h:Spl e n d):∃ m z u,n=2*m∧z≠0∧F4 u∧d=sg m*(z*z*u):=by
 induction h with
 | nil=>exact ⟨0,1,1,rfl,by decide,F4.one,by show (1:Rat)=1*(1*1*1); grind⟩
 | @one n a d h0 h1 h2 h ih =>
  exfalso
  have h3:=I2.mul h1 h2
  have h4:a / 2*(e / a / 2)=e / 4:=by grind
  rw [h4] at h3
  rcases he with rfl | rfl
  ·have h5:=h3.add h3
   rw [show (1:Rat) / 4+1 / 4=1 / 2 by grind] at h5
   exact yP h5
  ·rw [show (2:Rat) / 4=1 / 2 by grind] at h3
   exact yP h3
 | @two n z u d h0 h1 h ih =>
  obtain ⟨m,y,v,rfl,hy,hv,rfl⟩:=ih
  refine ⟨m+1,z*y,u*v,rfl,fun e=>?_,h1.mul hv,?_⟩
  ·rcases Rat.mul_eq_zero.1 e with h | h
   ·exact h0 h
   ·exact hy h
  ·show _ = -sg m*_
   grind
def p2:Nat→Rat
 | 0=>1
 | n+1=>2*p2 n
theorem Spl.four {n:Nat} {d:Rat} (h:Spl 4 n d):∃ z u,z≠0∧U2 u∧d=p2 n*(z*z*u):=by
 induction h with
 | nil=>exact ⟨1,1,by decide,F4.one.u2,by show (1:Rat)=1*(1*1*1); grind⟩
 | @one n a d h0 h1 h2 h ih =>
  obtain ⟨y,v,hy,hv,rfl⟩:=ih
  have hu:U2 (a / 2):=by
   rcases ue (show I2 (a / 2) from h1) with h3 | h3
   ·exact h3
   ·exfalso
    have h4:=I2.mul h3 h2
    rw [show a / 2 / 2*(4 / a / 2)=1 / 2 by grind] at h4
    exact yP h4
  refine ⟨y,a / 2*v,hy,hu.mul hv,?_⟩
  show _=2*p2 n*_
  grind
 | @two n z u d h0 h1 h ih =>
  obtain ⟨y,v,hy,hv,rfl⟩:=ih
  refine ⟨z*y / 2,-u*v,fun e=>?_,?_,?_⟩
  ·have:z*y=0:=by grind
   rcases Rat.mul_eq_zero.1 this with h | h
   ·exact h0 h
   ·exact hy h
  ·refine U2.mul ?_ hv
   have h2:=(show U2 (-1) from ⟨-1,1,rfl,rfl,by rw [show ((1:Int):Rat)=1 from rfl,Rat.mul_one]; rfl⟩).mul h1.u2
   rwa [show -1*u = -u by grind] at h2
  ·show _=2*(2*p2 n)*_
   grind
end Go.Tw

/- Determinants taken apart by one or two rows. Plain. -/
namespace Go.Tw
open Go.La (Mx sm det mm idm)
theorem VE {n:Nat} {B:Mx Rat} (h:∀ j,j < n→B 0 (j+1)=0):det (n+1) B=B 0 0*det n (fun i j=>B (i+1) (j+1)):=by
 show (sm (n+1) fun j=>La.sgn j*(B 0 j*det n (La.minor B j)))=_
 rw [La.sm_one 0 (by omega) fun j hj hne=>by
  obtain ⟨k,rfl⟩:∃ k,j=k+1:=⟨j - 1,by omega⟩
  rw [h k (by omega)]; grind]
 have e1:det n (La.minor B 0)=det n (fun i j=>B (i+1) (j+1)):=La.det_congr fun i j _ _=>by
  show B (i+1) (La.skip 0 j)=_
  rw [show La.skip 0 j=j+1 by unfold La.skip; rw [if_neg (by omega)]]
 rw [e1]
 show 1*(B 0 0*_)=_
 rw [Rat.one_mul]
theorem Qcg {n:Nat} {B:Mx Rat} (h0:∀ j,j < n→B 0 (j+2)=0) (h1:∀ j,j < n→B 1 (j+2)=0) :
  det (n+2) B=(B 0 0*B 1 1 - B 0 1*B 1 0)*det n (fun i j=>B (i+2) (j+2)):=by
 show (sm (n+2) fun j=>La.sgn j*(B 0 j*det (n+1) (La.minor B j)))=_
 rw [La.sm_two (p:=0) (q:=1) (by omega) (by omega) (by decide) fun j hj hn0 hn1=>by
  obtain ⟨k,rfl⟩:∃ k,j=k+2:=⟨j - 2,by omega⟩
  rw [h0 k (by omega)]; grind]
 have e0:det (n+1) (La.minor B 0)=B 1 1*det n (fun i j=>B (i+2) (j+2)):=by
  have e:det (n+1) (La.minor B 0)=det (n+1) (fun i j=>B (i+1) (j+1)):=La.det_congr fun i j _ _=>by
   show B (i+1) (La.skip 0 j)=_
   rw [show La.skip 0 j=j+1 by unfold La.skip; rw [if_neg (by omega)]]
  rw [e]
  exact VE (B:=fun i j=>B (i+1) (j+1)) fun j hj=>h1 j hj
 have e1:det (n+1) (La.minor B 1)=B 1 0*det n (fun i j=>B (i+2) (j+2)):=by
  rw [VE (B:=La.minor B 1) fun j hj=>by
   show B 1 (La.skip 1 (j+1))=0
   rw [show La.skip 1 (j+1)=j+2 by unfold La.skip; rw [if_neg (by omega)]]
   exact h1 j hj]
  rfl
 rw [e0,e1]
 show 1*(B 0 0*_) + -1*(B 0 1*_)=_
 grind
theorem QjC {n:Nat} {P A:Mx Rat} {i j:Nat} (hi:i < n) (hP:∀ k,k < n→P (i+2) (k+2)=if i=k then 1 else 0):mm (n+2) P A (i+2) j=A (i+2) j+P (i+2) 0*A 0 j+P (i+2) 1*A 1 j:=by
 show (sm (n+2) fun k=>P (i+2) k*A k j)=_
 rw [La.sm_left,La.sm_left,La.sm_one i hi fun k hk hne=>by
  show P (i+2) (k+2)*_=0
  rw [hP k hk,if_neg (fun e=>hne e.symm),Rat.zero_mul]]
 show P (i+2) 0*A 0 j+(P (i+2) 1*A 1 j+P (i+2) (i+2)*A (i+2) j)=_
 rw [hP i hi,if_pos rfl]
 grind
theorem Qgz {n:Nat} {P A:Mx Rat} {i j:Nat} (hi:i < n) (hP:∀ k,k < n→P (i+1) (k+1)=if i=k then 1 else 0):mm (n+1) P A (i+1) j=A (i+1) j+P (i+1) 0*A 0 j:=by
 show (sm (n+1) fun k=>P (i+1) k*A k j)=_
 rw [La.sm_left,La.sm_one i hi fun k hk hne=>by
  show P (i+1) (k+1)*_=0
  rw [hP k hk,if_neg (fun e=>hne e.symm),Rat.zero_mul]]
 show P (i+1) 0*A 0 j+P (i+1) (i+1)*A (i+1) j=_
 rw [hP i hi,if_pos rfl]
 grind
theorem QbC {n:Nat}:det n (fun i k=>if i=k then (1:Rat) else 0)=1:=La.det_idm n
theorem Qfl {n:Nat} {A:Mx Rat} {p:Nat→Rat} (h:∀ i,i < n→A (i+1) 0+p i*A 0 0=0) :
  det (n+1) A=A 0 0*det n (fun i j=>A (i+1) (j+1)+p i*A 0 (j+1)):=by
 obtain ⟨P,hP⟩:∃ P:Mx Rat,P=fun i k=>match i,k with
  | 0,0=>1
  | 0,_+1=>0
  | i+1,0=>p i
  | i+1,k+1=>if i=k then 1 else 0:=⟨_,rfl⟩
 have d1:det (n+1) P=1:=by
  rw [VE (B:=P) fun j _=>by rw [hP],hP]
  show 1*det n (fun i k=>if i=k then (1:Rat) else 0)=1
  rw [QbC,Rat.one_mul]
 have d2:=La.det_mm (n:=n+1) P A
 rw [d1] at d2
 have d2:det (n+1) (mm (n+1) P A)=det (n+1) A:=d2.trans (Rat.one_mul _)
 rw [← d2,← La.det_tr,VE (B:=La.tr (mm (n+1) P A)) fun j hj=>by
  show mm (n+1) P A (j+1) 0=0
  rw [Qgz hj fun k _=>by rw [hP]]
  rw [hP]; exact h j hj]
 have e0:La.tr (mm (n+1) P A) 0 0=A 0 0:=by
  show (sm (n+1) fun k=>P 0 k*A k 0)=_
  rw [La.sm_one 0 (by omega) fun k _ hk=>by
   obtain ⟨m,rfl⟩:∃ m,k=m+1:=⟨k - 1,by omega⟩
   rw [hP]; exact Rat.zero_mul _]
  rw [hP]; exact Rat.one_mul _
 rw [e0,← La.det_tr n (fun i j=>A (i+1) (j+1)+p i*A 0 (j+1))]
 refine congrArg _ (La.det_congr fun i j hi hj=>?_)
 show mm (n+1) P A (j+1) (i+1)=A (j+1) (i+1)+p j*A 0 (i+1)
 rw [Qgz hj fun k _=>by rw [hP]]
 rw [hP]
theorem Qho {n:Nat} {A:Mx Rat} {p q:Nat→Rat} (h0:∀ i,i < n→A (i+2) 0+p i*A 0 0+q i*A 1 0=0) (h1:∀ i,i < n→A (i+2) 1+p i*A 0 1+q i*A 1 1=0) :
  det (n+2) A=(A 0 0*A 1 1 - A 0 1*A 1 0)*det n (fun i j=>A (i+2) (j+2)+p i*A 0 (j+2)+q i*A 1 (j+2)):=by
 obtain ⟨P,hP⟩:∃ P:Mx Rat,P=fun i k=>match i,k with
  | 0,k=>if k=0 then 1 else 0
  | 1,k=>if k=1 then 1 else 0
  | i+2,0=>p i
  | i+2,1=>q i
  | i+2,k+2=>if i=k then 1 else 0:=⟨_,rfl⟩
 have d1:det (n+2) P=1:=by
  rw [Qcg (B:=P) (fun j _=>by rw [hP]; exact if_neg (by omega)) (fun j _=>by rw [hP]; exact if_neg (by omega)),hP]
  show (1*1 - 0*0)*det n (fun i k=>if i=k then (1:Rat) else 0)=1
  rw [QbC]; grind
 have d2:=La.det_mm (n:=n+2) P A
 rw [d1] at d2
 have d2:det (n+2) (mm (n+2) P A)=det (n+2) A:=d2.trans (Rat.one_mul _)
 have r0:∀ j,mm (n+2) P A 0 j=A 0 j:=fun j=>by
  show (sm (n+2) fun k=>P 0 k*A k j)=_
  rw [La.sm_one 0 (by omega) fun k _ hk=>by rw [hP]; show (if k=0 then (1:Rat) else 0)*_=0; rw [if_neg hk,Rat.zero_mul]]
  rw [hP]; exact Rat.one_mul _
 have r1:∀ j,mm (n+2) P A 1 j=A 1 j:=fun j=>by
  show (sm (n+2) fun k=>P 1 k*A k j)=_
  rw [La.sm_one 1 (by omega) fun k _ hk=>by rw [hP]; show (if k=1 then (1:Rat) else 0)*_=0; rw [if_neg hk,Rat.zero_mul]]
  rw [hP]; exact Rat.one_mul _
 have r2:∀ i j,i < n→mm (n+2) P A (i+2) j=A (i+2) j+p i*A 0 j+q i*A 1 j:=fun i j hi=>by
  rw [QjC hi fun k _=>by rw [hP]]
  rw [hP]
 rw [← d2,← La.det_tr,Qcg (B:=La.tr (mm (n+2) P A)) (fun j hj=>by
  show mm (n+2) P A (j+2) 0=0
  rw [r2 j 0 hj]; exact h0 j hj) (fun j hj=>by
  show mm (n+2) P A (j+2) 1=0
  rw [r2 j 1 hj]; exact h1 j hj)]
 show (mm (n+2) P A 0 0*mm (n+2) P A 1 1 - mm (n+2) P A 1 0*mm (n+2) P A 0 1)*_=_
 rw [r0,r0,r1,r1,Rat.mul_comm (A 1 0),← La.det_tr n (fun i j=>A (i+2) (j+2)+p i*A 0 (j+2)+q i*A 1 (j+2))]
 refine congrArg _ (La.det_congr fun i j hi hj=>?_)
 exact r2 j (i+2) hj
end Go.Tw

/- Even forms at 2: one step of the splitting. Plain. -/
namespace Go.Tw
open Go.La (Mx sm det mm idm)
structure Ev (e:Rat) (n:Nat) (A X:Mx Rat):Prop where
 symA:∀ i j,i < n→j < n→A i j=A j i
 symX:∀ i j,i < n→j < n→X i j=X j i
 intA:∀ i j,i < n→j < n→I2 (A i j)
 evA:∀ i,i < n→E2 (A i i)
 inv:∀ i j,i < n→j < n→(sm n fun k=>A i k*X k j)=if i=j then 1 else 0
 intX:∀ i j,i < n→j < n→I2 (e*X i j)
 evX:∀ i,i < n→E2 (e*X i i)
theorem QaJ {m:Nat} (f g x:Nat→Rat) (c:Rat):(sm m fun k=>(f k+c*g k)*x k)=(sm m fun k=>f k*x k)+c*sm m fun k=>g k*x k:=by
 have e:(sm m fun k=>(f k+c*g k)*x k)=sm m fun k=>f k*x k+c*(g k*x k):=La.sm_congr fun k _=>by grind
 rw [e]
 refine (La.sm_add m _ _).trans ?_
 exact congrArg _ (La.sm_mul m c fun k=>g k*x k)
theorem vw (n:Nat) (f:Nat→Rat):sm (n+1) f=f 0+sm n (fun k=>f (k+1)):=La.sm_left n f
theorem Ev.one {e:Rat} {m:Nat} {A X:Mx Rat} (h:Ev e (m+1) A X) (h0:A 0 0≠0) (hd:∀ i j,i < m+1→j < m+1→I2 (A i j / A 0 0)) :
  E2 (e / A 0 0)∧∃ S,Ev e m S (fun i j=>X (i+1) (j+1))∧det (m+1) A=A 0 0*det m S:=by
 obtain ⟨a,ha⟩:∃ a,a=A 0 0:=⟨_,rfl⟩
 constructor
 ·have hv:=yX (Y:=fun i j=>e*X i j) (q:=fun k=>A 0 k / A 0 0) (n:=m+1) (fun i j hi hj=>by rw [h.symX i j hi hj]) h.intX h.evX (fun i hi=>hd 0 i (by omega) hi)
  have e1:(sm (m+1) fun k=>A 0 k / A 0 0*sm (m+1) fun l=>e*X k l*(A 0 l / A 0 0))=e / A 0 0:=by
   have e2:∀ k,k < m+1→(sm (m+1) fun l=>e*X k l*(A 0 l / A 0 0))=e / A 0 0*if 0=k then 1 else 0:=fun k hk=>by
    rw [← h.inv 0 k (by omega) hk]
    refine Eq.trans (La.sm_congr (g:=fun l=>e / A 0 0*(A 0 l*X l k)) fun l hl=>?_) (La.sm_mul (m+1) (e / A 0 0) fun l=>A 0 l*X l k)
    rw [h.symX k l hk hl]; grind
   rw [La.sm_congr (g:=fun k=>A 0 k / A 0 0*(e / A 0 0*if 0=k then 1 else 0)) fun k hk=>by rw [e2 k hk]]
   rw [La.sm_one 0 (by omega) fun k _ hk=>by rw [if_neg (fun e=>hk e.symm),Rat.mul_zero,Rat.mul_zero]]
   rw [if_pos rfl,Rat.mul_one,show A 0 0 / A 0 0=1 by rw [Rat.div_def]; exact Rat.mul_inv_cancel _ h0,Rat.one_mul]
  rw [e1] at hv
  exact hv
 ·refine ⟨fun i j=>A (i+1) (j+1) + -(A (i+1) 0 / A 0 0)*A 0 (j+1),?_,Qfl fun i _=>?_⟩
  ·refine ⟨fun i j hi hj=>?_,fun i j hi hj=>h.symX _ _ (by omega) (by omega),fun i j hi hj=>?_,fun i hi=>?_,fun i j hi hj=>?_,fun i j hi hj=>h.intX _ _ (by omega) (by omega),fun i hi=>h.evX _ (by omega)⟩
   ·rw [h.symA (i+1) (j+1) (by omega) (by omega),h.symA (i+1) 0 (by omega) (by omega),h.symA (j+1) 0 (by omega) (by omega)]
    grind
   ·exact (h.intA _ _ (by omega) (by omega)).add ((hd _ _ (by omega) (by omega)).neg.mul (h.intA _ _ (by omega) (by omega)))
   ·have e3:A (i+1) (i+1) + -(A (i+1) 0 / A 0 0)*A 0 (i+1)=A (i+1) (i+1) + -(A 0 0*(A (i+1) 0 / A 0 0*(A (i+1) 0 / A 0 0))):=by
     rw [h.symA 0 (i+1) (by omega) (by omega)]
     have:A 0 0*(A (i+1) 0 / A 0 0)=A (i+1) 0:=by rw [Rat.mul_comm,Rat.div_mul_cancel h0]
     grind
    show E2 (A (i+1) (i+1) + -(A (i+1) 0 / A 0 0)*A 0 (i+1))
    rw [e3]
    exact (h.evA _ (by omega)).add ((h.evA 0 (by omega)).mul ((hd _ _ (by omega) (by omega)).mul (hd _ _ (by omega) (by omega)))).neg
   ·show (sm m fun k=>(A (i+1) (k+1) + -(A (i+1) 0 / A 0 0)*A 0 (k+1))*X (k+1) (j+1))=_
    rw [QaJ (fun k=>A (i+1) (k+1)) (fun k=>A 0 (k+1)) (fun k=>X (k+1) (j+1))]
    have i1:=h.inv (i+1) (j+1) (by omega) (by omega)
    have i2:=h.inv 0 (j+1) (by omega) (by omega)
    rw [vw] at i1 i2
    rw [if_neg (by omega)] at i2
    have e4:(if i+1=j+1 then (1:Rat) else 0)=if i=j then 1 else 0:=by
     by_cases e:i=j
     ·rw [if_pos e,if_pos (by omega)]
     ·rw [if_neg e,if_neg (by omega)]
    rw [e4] at i1
    obtain ⟨s1,hs1⟩:∃ s1,s1=sm m fun k=>A (i+1) (k+1)*X (k+1) (j+1):=⟨_,rfl⟩
    obtain ⟨s2,hs2⟩:∃ s2,s2=sm m fun k=>A 0 (k+1)*X (k+1) (j+1):=⟨_,rfl⟩
    rw [← hs1] at i1 ⊢
    rw [← hs2] at i2 ⊢
    rw [← i1]
    have:A (i+1) 0 / A 0 0*A 0 0=A (i+1) 0:=Rat.div_mul_cancel h0
    grind
  ·have:A (i+1) 0 / A 0 0*A 0 0=A (i+1) 0:=Rat.div_mul_cancel h0
   grind
theorem Ev.two {e:Rat} {m:Nat} {A X:Mx Rat} (h:Ev e (m+2) A X) (h0:A 0 1≠0) (hd:∀ i j,i < m+2→j < m+2→I2 (A i j / A 0 1)) (hE0:E2 (A 0 0 / A 0 1)) (hE1:E2 (A 1 1 / A 0 1)) :
  ∃ u S,F4 u∧Ev e m S (fun i j=>X (i+2) (j+2))∧det (m+2) A = -(A 0 1*A 0 1*u)*det m S:=by
 obtain ⟨b,hb⟩:∃ b,b=A 0 1:=⟨_,rfl⟩
 obtain ⟨a,ha⟩:∃ a,a=A 0 0:=⟨_,rfl⟩
 obtain ⟨c,hc⟩:∃ c,c=A 1 1:=⟨_,rfl⟩
 have hb10:A 1 0=b:=by rw [h.symA 1 0 (by omega) (by omega),hb]
 rw [← hb] at h0 hd hE0 hE1 ⊢
 rw [← ha] at hE0
 rw [← hc] at hE1
 obtain ⟨u,hu⟩:∃ u,u=1 - a / b*(c / b):=⟨_,rfl⟩
 have hF:F4 u:=by
  have h3:=(I2.mul hE0 hE1).neg
  show I2 ((u - 1) / 4)
  rwa [show -(a / b / 2*(c / b / 2))=(u - 1) / 4 by rw [hu]; grind] at h3
 have hu0:=hF.u2.ne
 have hui:=hF.u2.inv.i2
 have hab:a / b*b=a:=Rat.div_mul_cancel h0
 have hcb:c / b*b=c:=Rat.div_mul_cancel h0
 have hdelta:a*c - b*b = -(b*b*u):=by rw [hu]; grind
 have huu:u*u⁻¹=1:=Rat.mul_inv_cancel _ hu0
 obtain ⟨r,hr⟩:∃ r:Nat→Rat,r=fun i=>A (i+2) 0:=⟨_,rfl⟩
 obtain ⟨s,hs⟩:∃ s:Nat→Rat,s=fun i=>A (i+2) 1:=⟨_,rfl⟩
 obtain ⟨p,hp⟩:∃ p:Nat→Rat,p=fun i=>(c / b*(r i / b) - s i / b)*u⁻¹:=⟨_,rfl⟩
 obtain ⟨q,hq⟩:∃ q:Nat→Rat,q=fun i=>(a / b*(s i / b) - r i / b)*u⁻¹:=⟨_,rfl⟩
 have hrb:∀ i,r i / b*b=r i:=fun i=>Rat.div_mul_cancel h0
 have hsb:∀ i,s i / b*b=s i:=fun i=>Rat.div_mul_cancel h0
 have hri:∀ i,A (i+2) 0=r i:=fun i=>by rw [hr]
 have hsi:∀ i,A (i+2) 1=s i:=fun i=>by rw [hs]
 have hr0:∀ i,i < m→A 0 (i+2)=r i:=fun i hi=>by rw [← hri i]; exact h.symA _ _ (by omega) (by omega)
 have hs0:∀ i,i < m→A 1 (i+2)=s i:=fun i hi=>by rw [← hsi i]; exact h.symA _ _ (by omega) (by omega)
 have ir:∀ i,i < m→I2 (r i / b):=fun i hi=>by rw [← hri i]; exact hd _ _ (by omega) (by omega)
 have is:∀ i,i < m→I2 (s i / b):=fun i hi=>by rw [← hsi i]; exact hd _ _ (by omega) (by omega)
 have ip:∀ i,i < m→I2 (p i):=fun i hi=>by rw [hp]; exact ((hE1.i2.mul (ir i hi)).sub (is i hi)).mul hui
 have iq:∀ i,i < m→I2 (q i):=fun i hi=>by rw [hq]; exact ((hE0.i2.mul (is i hi)).sub (ir i hi)).mul hui
 have k0:∀ i,r i+p i*a+q i*b=0:=fun i=>by
  have e1:=hrb i
  have e2:=hsb i
  rw [hp,hq]
  show r i+(c / b*(r i / b) - s i / b)*u⁻¹*a+(a / b*(s i / b) - r i / b)*u⁻¹*b=0
  obtain ⟨x,hx⟩:∃ x,x=r i / b:=⟨_,rfl⟩
  obtain ⟨y,hy⟩:∃ y,y=s i / b:=⟨_,rfl⟩
  obtain ⟨f,hf⟩:∃ f,f=a / b:=⟨_,rfl⟩
  obtain ⟨g,hg⟩:∃ g,g=c / b:=⟨_,rfl⟩
  obtain ⟨v,hv⟩:∃ v,v=u⁻¹:=⟨_,rfl⟩
  rw [← hx] at e1 ⊢
  rw [← hy] at e2 ⊢
  rw [← hf] at hab hu ⊢
  rw [← hg] at hu ⊢
  rw [← hv] at huu ⊢
  rw [← e1,← hab]
  have e3:x*b+(g*x - y)*v*(f*b)+(f*y - x)*v*b=x*b - x*b*((1 - f*g)*v):=by grind
  rw [e3,← hu,huu]; grind
 have k1:∀ i,s i+p i*b+q i*c=0:=fun i=>by
  have e1:=hrb i
  have e2:=hsb i
  rw [hp,hq]
  show s i+(c / b*(r i / b) - s i / b)*u⁻¹*b+(a / b*(s i / b) - r i / b)*u⁻¹*c=0
  obtain ⟨x,hx⟩:∃ x,x=r i / b:=⟨_,rfl⟩
  obtain ⟨y,hy⟩:∃ y,y=s i / b:=⟨_,rfl⟩
  obtain ⟨f,hf⟩:∃ f,f=a / b:=⟨_,rfl⟩
  obtain ⟨g,hg⟩:∃ g,g=c / b:=⟨_,rfl⟩
  obtain ⟨v,hv⟩:∃ v,v=u⁻¹:=⟨_,rfl⟩
  rw [← hx] at e1 ⊢
  rw [← hy] at e2 ⊢
  rw [← hf] at hu ⊢
  rw [← hg] at hcb hu ⊢
  rw [← hv] at huu ⊢
  rw [← e2,← hcb]
  have e3:y*b+(g*x - y)*v*b+(f*y - x)*v*(g*b)=y*b - y*b*((1 - f*g)*v):=by grind
  rw [e3,← hu,huu]; grind
 refine ⟨u,fun i j=>A (i+2) (j+2)+p i*A 0 (j+2)+q i*A 1 (j+2),hF,?_,?_⟩
 ·refine ⟨fun i j hi hj=>?_,fun i j hi hj=>h.symX _ _ (by omega) (by omega),fun i j hi hj=>?_,fun i hi=>?_,fun i j hi hj=>?_,fun i j hi hj=>h.intX _ _ (by omega) (by omega),fun i hi=>h.evX _ (by omega)⟩
  ·show A (i+2) (j+2)+p i*A 0 (j+2)+q i*A 1 (j+2)=A (j+2) (i+2)+p j*A 0 (i+2)+q j*A 1 (i+2)
   rw [h.symA (i+2) (j+2) (by omega) (by omega),hr0 i hi,hr0 j hj,hs0 i hi,hs0 j hj,hp,hq]
   grind
  ·exact ((h.intA _ _ (by omega) (by omega)).add ((ip i hi).mul (h.intA _ _ (by omega) (by omega)))).add ((iq i hi).mul (h.intA _ _ (by omega) (by omega)))
  ·show E2 (A (i+2) (i+2)+p i*A 0 (i+2)+q i*A 1 (i+2))
   rw [hr0 i hi,hs0 i hi]
   have e1:=hrb i
   have e2:=hsb i
   have e3:A (i+2) (i+2)+p i*r i+q i*s i=A (i+2) (i+2)+(c*(r i / b*(r i / b)*u⁻¹)+(a*(s i / b*(s i / b)*u⁻¹) + -(2*(r i / b*(s i)*u⁻¹)))):=by
    rw [hp,hq]
    show A (i+2) (i+2)+(c / b*(r i / b) - s i / b)*u⁻¹*r i+(a / b*(s i / b) - r i / b)*u⁻¹*s i=_
    grind
   rw [e3]
   have hra:E2 a:=by rw [ha]; exact h.evA _ (by omega)
   have hrc:E2 c:=by rw [hc]; exact h.evA _ (by omega)
   exact (h.evA _ (by omega)).add ((hrc.mul (((ir i hi).mul (ir i hi)).mul hui)).add ((hra.mul (((is i hi).mul (is i hi)).mul hui)).add (E2.two (((ir i hi).mul (by rw [← hsi i]; exact h.intA _ _ (by omega) (by omega))).mul hui)).neg))
  ·show (sm m fun k=>(A (i+2) (k+2)+p i*A 0 (k+2)+q i*A 1 (k+2))*X (k+2) (j+2))=_
   rw [QaJ (fun k=>A (i+2) (k+2)+p i*A 0 (k+2)) (fun k=>A 1 (k+2)) (fun k=>X (k+2) (j+2)),QaJ (fun k=>A (i+2) (k+2)) (fun k=>A 0 (k+2)) (fun k=>X (k+2) (j+2))]
   have i1:=h.inv (i+2) (j+2) (by omega) (by omega)
   have i2:=h.inv 0 (j+2) (by omega) (by omega)
   have i3:=h.inv 1 (j+2) (by omega) (by omega)
   rw [vw,vw] at i1 i2 i3
   rw [if_neg (by omega)] at i2 i3
   have e4:(if i+2=j+2 then (1:Rat) else 0)=if i=j then 1 else 0:=by
    by_cases e:i=j
    ·rw [if_pos e,if_pos (by omega)]
    ·rw [if_neg e,if_neg (by omega)]
   rw [e4] at i1
   obtain ⟨s1,hs1⟩:∃ s1,s1=sm m fun k=>A (i+2) (k+2)*X (k+2) (j+2):=⟨_,rfl⟩
   obtain ⟨s2,hs2⟩:∃ s2,s2=sm m fun k=>A 0 (k+2)*X (k+2) (j+2):=⟨_,rfl⟩
   obtain ⟨s3,hs3⟩:∃ s3,s3=sm m fun k=>A 1 (k+2)*X (k+2) (j+2):=⟨_,rfl⟩
   have i1:A (i+2) 0*X 0 (j+2)+(A (i+2) 1*X 1 (j+2)+s1)=if i=j then 1 else 0:=by rw [hs1]; exact i1
   have i2:A 0 0*X 0 (j+2)+(A 0 1*X 1 (j+2)+s2)=0:=by rw [hs2]; exact i2
   have i3:A 1 0*X 0 (j+2)+(A 1 1*X 1 (j+2)+s3)=0:=by rw [hs3]; exact i3
   rw [hri,hsi] at i1
   rw [← ha,← hb] at i2
   rw [hb10,← hc] at i3
   rw [← hs1,← hs2,← hs3,← i1]
   have j0:=k0 i
   have j1:=k1 i
   have e5:s2 = -(a*X 0 (j+2)+b*X 1 (j+2)):=by grind
   have e6:s3 = -(b*X 0 (j+2)+c*X 1 (j+2)):=by grind
   rw [e5,e6]
   grind
 ·rw [Qho (p:=p) (q:=q) (fun i _=>by rw [hri,hb10,← ha]; exact k0 i) (fun i _=>by rw [hsi,← hb,← hc]; exact k1 i),hb10,← ha,← hb,← hc,hdelta]
end Go.Tw

/- Even forms at 2: the splitting. Plain. -/
namespace Go.Tw
open Go.La (Mx sm det mm idm)
theorem QaR (p q i:Nat):Lr.tau p q (Lr.tau p q i)=i:=by
 unfold Lr.tau
 by_cases h1:i=p
 ·by_cases h2:q=p
  ·rw [if_pos h1,if_pos h2]; omega
  ·rw [if_pos h1,if_neg h2,if_pos rfl]; omega
 ·by_cases h2:i=q
  ·rw [if_neg h1,if_pos h2,if_pos rfl]; omega
  ·rw [if_neg h1,if_neg h2,if_neg h1,if_neg h2]
theorem Jr {n p q i:Nat} (hp:p < n) (hq:q < n) (hi:i < n):Lr.tau p q i < n:=by
 unfold Lr.tau
 split
 ·exact hq
 ·split
  ·exact hp
  ·exact hi
theorem QjN {n p q:Nat} (hp:p < n) (hq:q < n) (f:Nat→Rat):(sm n fun k=>f (Lr.tau p q k))=sm n f:=by
 have e1:(sm n fun k=>f (Lr.tau p q k))=sm n fun k=>sm n fun l=>if l=Lr.tau p q k then f l else 0:=La.sm_congr fun k hk=>by
  rw [La.sm_one (Lr.tau p q k) (Jr hp hq hk) fun j _ hj=>if_neg hj,if_pos rfl]
 rw [e1,La.sm_comm]
 refine La.sm_congr fun l hl=>?_
 rw [La.sm_one (Lr.tau p q l) (Jr hp hq hl) fun j _ hj=>if_neg fun e=>hj (by rw [e,QaR]),if_pos (QaR p q l).symm]
theorem Qap {n p q:Nat} (hp:p < n) (hq:q < n) (A:Mx Rat):det n (fun i j=>A (Lr.tau p q i) (Lr.tau p q j))=det n A:=by
 rw [← Lr.det_la,← Lr.det_la]
 exact Lr.det_conj hp hq A
theorem Ev.swap {e:Rat} {n p q:Nat} {A X:Mx Rat} (h:Ev e n A X) (hp:p < n) (hq:q < n):Ev e n (fun i j=>A (Lr.tau p q i) (Lr.tau p q j)) (fun i j=>X (Lr.tau p q i) (Lr.tau p q j)):=by
 refine ⟨fun i j hi hj=>h.symA _ _ (Jr hp hq hi) (Jr hp hq hj),fun i j hi hj=>h.symX _ _ (Jr hp hq hi) (Jr hp hq hj),fun i j hi hj=>h.intA _ _ (Jr hp hq hi) (Jr hp hq hj),fun i hi=>h.evA _ (Jr hp hq hi),fun i j hi hj=>?_,
  fun i j hi hj=>h.intX _ _ (Jr hp hq hi) (Jr hp hq hj),fun i hi=>h.evX _ (Jr hp hq hi)⟩
 show (sm n fun k=>A (Lr.tau p q i) (Lr.tau p q k)*X (Lr.tau p q k) (Lr.tau p q j))=_
 rw [QjN hp hq (fun k=>A (Lr.tau p q i) k*X k (Lr.tau p q j)),h.inv _ _ (Jr hp hq hi) (Jr hp hq hj)]
 by_cases e:i=j
 ·rw [if_pos e,if_pos (by rw [e])]
 ·rw [if_neg e,if_neg fun e2=>e (Lr.tau_inj.1 e2)]
theorem least:∀ {m:Nat} {f:Nat→Rat},(∃ k,k < m∧f k≠0)→∃ k,k < m∧f k≠0∧∀ j,j < m→I2 (f j / f k)
 | 0,f,⟨k,hk,_⟩=>by omega
 | m+1,f,⟨k,hk,h0⟩=>by
  have self:∀ x:Rat,x≠0→I2 (x / x):=fun x hx=>by
   rw [Rat.div_def,Rat.mul_inv_cancel _ hx]; exact I2.one
  by_cases hz:∃ k,k < m∧f k≠0
  ·obtain ⟨k,hk,h0,hd⟩:=least hz
   by_cases hm:f m=0
   ·refine ⟨k,by omega,h0,fun j hj=>?_⟩
    rcases Nat.lt_or_eq_of_le (Nat.le_of_lt_succ hj) with h1 | h1
    ·exact hd j h1
    ·rw [h1,hm,Rat.div_def,Rat.zero_mul]; exact I2.zero
   ·rcases QcP (x:=f m) (y:=f k) hm h0 with h1 | h1
    ·refine ⟨k,by omega,h0,fun j hj=>?_⟩
     rcases Nat.lt_or_eq_of_le (Nat.le_of_lt_succ hj) with h2 | h2
     ·exact hd j h2
     ·rw [h2]; exact h1
    ·refine ⟨m,by omega,hm,fun j hj=>?_⟩
     rcases Nat.lt_or_eq_of_le (Nat.le_of_lt_succ hj) with h2 | h2
     ·have h3:=(hd j h2).mul h1
      have h4:f j / f k*(f k / f m)=f j / f m:=by
       have:f j / f k*f k=f j:=Rat.div_mul_cancel h0
       rw [Rat.div_def (f k),← Rat.mul_assoc,this,← Rat.div_def]
      rwa [h4] at h3
     ·rw [h2]; exact self _ hm
  ·have hkm:k=m:=by
    rcases Nat.lt_or_eq_of_le (Nat.le_of_lt_succ hk) with h1 | h1
    ·exact absurd ⟨k,h1,h0⟩ hz
    ·exact h1
   subst hkm
   refine ⟨k,by omega,h0,fun j hj=>?_⟩
   rcases Nat.lt_or_eq_of_le (Nat.le_of_lt_succ hj) with h1 | h1
   ·have:f j=0:=Decidable.not_not.1 fun e=>hz ⟨j,h1,e⟩
    rw [this,Rat.div_def,Rat.zero_mul]; exact I2.zero
   ·rw [h1]; exact self _ h0
theorem least2 {n:Nat} {A:Mx Rat} (h:∃ i j,i < n∧j < n∧A i j≠0):∃ i j,i < n∧j < n∧A i j≠0∧∀ k l,k < n→l < n→I2 (A k l / A i j):=by
 obtain ⟨i,j,hi,hj,h0⟩:=h
 have hn:0 < n:=by omega
 have lt:∀ i j,i < n→j < n→i*n+j < n*n:=fun i j hi hj=>by
  have:=Nat.mul_le_mul_right n (show i+1≤n by omega)
  rw [Nat.add_mul,Nat.one_mul] at this
  omega
 have dv:∀ i j,j < n→(i*n+j) / n=i∧(i*n+j) % n=j:=fun i j hj =>
  ⟨by rw [Nat.mul_comm,Nat.mul_add_div hn,Nat.div_eq_of_lt hj,Nat.add_zero],by rw [Nat.mul_comm,Nat.mul_add_mod,Nat.mod_eq_of_lt hj]⟩
 obtain ⟨k,hk,h1,h2⟩:=least (m:=n*n) (f:=fun k=>A (k / n) (k % n)) ⟨i*n+j,lt i j hi hj,by
  show A ((i*n+j) / n) ((i*n+j) % n)≠0
  rw [(dv i j hj).1,(dv i j hj).2]; exact h0⟩
 refine ⟨k / n,k % n,Nat.div_lt_of_lt_mul hk,Nat.mod_lt _ hn,h1,fun a b ha hb=>?_⟩
 have h3:=h2 (a*n+b) (lt a b ha hb)
 have h3:I2 (A ((a*n+b) / n) ((a*n+b) % n) / A (k / n) (k % n)):=h3
 rwa [(dv a b hb).1,(dv a b hb).2] at h3
theorem Ev.spl {e:Rat}:∀ (n:Nat) {A X:Mx Rat},Ev e n A X→Spl e n (det n A)
 | 0,A,X,_=>Spl.nil
 | 1,A,X,h=>by
  have hz:A 0 0≠0:=fun e0=>by
   have:=h.inv 0 0 (by omega) (by omega)
   have:A 0 0*X 0 0=1:=by
    have h2:(0:Rat)+A 0 0*X 0 0=1:=this
    rwa [Rat.zero_add] at h2
   rw [e0,Rat.zero_mul] at this
   exact absurd this (by decide)
  obtain ⟨h1,S,hS,hdet⟩:=h.one (m:=0) hz fun i j hi hj=>by
   obtain rfl:i=0:=by omega
   obtain rfl:j=0:=by omega
   rw [Rat.div_def,Rat.mul_inv_cancel _ hz]; exact I2.one
  rw [hdet]
  exact Spl.one hz (h.evA 0 (by omega)) h1 (Ev.spl 0 hS)
 | m+2,A,X,h=>by
  have hz:∃ i j,i < m+2∧j < m+2∧A i j≠0:=Classical.byContradiction fun hn=>by
   have:=h.inv 0 0 (by omega) (by omega)
   rw [La.sm_zero fun k hk=>by
    rw [show A 0 k=0 from Decidable.not_not.1 fun e=>hn ⟨0,k,by omega,hk,e⟩,Rat.zero_mul]] at this
   exact absurd this (by decide)
  obtain ⟨i,j,hi,hj,h0,hd⟩:=least2 hz
  by_cases hdg:∃ k,k < m+2∧A k k≠0∧I2 (A i j / A k k)
  ·obtain ⟨k,hk,hk0,hki⟩:=hdg
   have hs:=h.swap (p:=0) (q:=k) (by omega) hk
   have t0:Lr.tau 0 k 0=k:=by unfold Lr.tau; rw [if_pos rfl]
   obtain ⟨h1,S,hS,hdet⟩:=hs.one (m:=m+1) (by show A (Lr.tau 0 k 0) (Lr.tau 0 k 0)≠0; rw [t0]; exact hk0) fun a b ha hb=>by
    show I2 (A (Lr.tau 0 k a) (Lr.tau 0 k b) / A (Lr.tau 0 k 0) (Lr.tau 0 k 0))
    rw [t0]
    have h3:=(hd _ _ (Jr (p:=0) (q:=k) (by omega) hk ha) (Jr (p:=0) (q:=k) (by omega) hk hb)).mul hki
    have h4:A (Lr.tau 0 k a) (Lr.tau 0 k b) / A i j*(A i j / A k k)=A (Lr.tau 0 k a) (Lr.tau 0 k b) / A k k:=by
     have:A (Lr.tau 0 k a) (Lr.tau 0 k b) / A i j*A i j=A (Lr.tau 0 k a) (Lr.tau 0 k b):=Rat.div_mul_cancel h0
     rw [Rat.div_def (A i j),← Rat.mul_assoc,this,← Rat.div_def]
    rwa [h4] at h3
   rw [← Qap (p:=0) (q:=k) (by omega) hk A,hdet]
   exact Spl.one (by show A (Lr.tau 0 k 0) (Lr.tau 0 k 0)≠0; rw [t0]; exact hk0) (hs.evA 0 (by omega)) h1 (Ev.spl (m+1) hS)
  ·have hev:∀ k,k < m+2→E2 (A k k / A i j):=fun k hk=>by
    rcases ue (hd k k hk hk) with h1 | h1
    ·exfalso
     have hk0:A k k≠0:=fun e=>h1.ne (by rw [e,Rat.div_def,Rat.zero_mul])
     refine hdg ⟨k,hk,hk0,?_⟩
     have h2:=h1.inv.i2
     rwa [show (A k k / A i j)⁻¹=A i j / A k k by grind] at h2
    ·exact h1
   have hne:i≠j:=fun e=>by
    subst e
    refine hdg ⟨i,hi,h0,?_⟩
    rw [Rat.div_def,Rat.mul_inv_cancel _ h0]; exact I2.one
   -- first i to place 0,then j to place 1
   have hs:=h.swap (p:=0) (q:=i) (by omega) hi
   obtain ⟨j1,hj1⟩:∃ j1,j1=Lr.tau 0 i j:=⟨_,rfl⟩
   have hj1n:j1 < m+2:=by rw [hj1]; exact Jr (by omega) hi hj
   have hj1z:j1≠0:=fun e=>by
    rw [hj1] at e
    have:Lr.tau 0 i j=Lr.tau 0 i i:=by
     rw [e]; unfold Lr.tau
     by_cases h1:i=0
     ·rw [if_pos h1,h1]
     ·rw [if_neg h1,if_pos rfl]
    exact hne (Lr.tau_inj.1 this).symm
   have hs2:=hs.swap (p:=1) (q:=j1) (by omega) hj1n
   have u0:Lr.tau 1 j1 0=0:=by unfold Lr.tau; rw [if_neg (by decide),if_neg (fun e=>hj1z e.symm)]
   have u1:Lr.tau 1 j1 1=j1:=by unfold Lr.tau; rw [if_pos rfl]
   have t0:Lr.tau 0 i 0=i:=by unfold Lr.tau; rw [if_pos rfl]
   have t1:Lr.tau 0 i j1=j:=by rw [hj1,QaR]
   have e01:A (Lr.tau 0 i (Lr.tau 1 j1 0)) (Lr.tau 0 i (Lr.tau 1 j1 1))=A i j:=by rw [u0,u1,t0,t1]
   have e00:A (Lr.tau 0 i (Lr.tau 1 j1 0)) (Lr.tau 0 i (Lr.tau 1 j1 0))=A i i:=by rw [u0,t0]
   have e11:A (Lr.tau 0 i (Lr.tau 1 j1 1)) (Lr.tau 0 i (Lr.tau 1 j1 1))=A j j:=by rw [u1,t1]
   obtain ⟨u,S,hF,hS,hdet⟩:=hs2.two (m:=m) (by show A (Lr.tau 0 i (Lr.tau 1 j1 0)) (Lr.tau 0 i (Lr.tau 1 j1 1))≠0; rw [e01]; exact h0)
    (fun a b ha hb=>by
     show I2 (_ / A (Lr.tau 0 i (Lr.tau 1 j1 0)) (Lr.tau 0 i (Lr.tau 1 j1 1)))
     rw [e01]
     exact hd _ _ (Jr (by omega) hi (Jr (by omega) hj1n ha)) (Jr (by omega) hi (Jr (by omega) hj1n hb)))
    (by
     show E2 (A (Lr.tau 0 i (Lr.tau 1 j1 0)) (Lr.tau 0 i (Lr.tau 1 j1 0)) / A (Lr.tau 0 i (Lr.tau 1 j1 0)) (Lr.tau 0 i (Lr.tau 1 j1 1)))
     rw [e01,e00]; exact hev i hi)
    (by
     show E2 (A (Lr.tau 0 i (Lr.tau 1 j1 1)) (Lr.tau 0 i (Lr.tau 1 j1 1)) / A (Lr.tau 0 i (Lr.tau 1 j1 0)) (Lr.tau 0 i (Lr.tau 1 j1 1)))
     rw [e01,e11]; exact hev j hj)
   rw [← Qap (p:=0) (q:=i) (by omega) hi A,← Qap (p:=1) (q:=j1) (by omega) hj1n (fun a b=>A (Lr.tau 0 i a) (Lr.tau 0 i b)),hdet]
   exact Spl.two (by show A (Lr.tau 0 i (Lr.tau 1 j1 0)) (Lr.tau 0 i (Lr.tau 1 j1 1))≠0; rw [e01]; exact h0) hF (Ev.spl m hS)
end Go.Tw

/- The discriminant's power of two. Plain. -/
namespace Go.Tw
open Go.La (Mx sm det mm idm)
theorem QhX {t:Rat} (h:U2 (t*t)):U2 t:=by
 have h0:t≠0:=fun e=>h.ne (by rw [e,Rat.zero_mul])
 rcases QcP (x:=t) (y:=1) h0 (by decide) with h1 | h1
 ·rw [Rat.div_def,show (1:Rat)⁻¹=1 by grind,Rat.mul_one] at h1
  rcases ue h1 with h2 | h2
  ·exact h2
  ·exact (qE h (h2.mul h1)).elim
 ·rw [Rat.div_def,Rat.one_mul] at h1
  rcases ue h1 with h2 | h2
  ·have:=h2.inv
   rwa [Rat.inv_inv] at this
  ·have h3:=h2.mul h1
   rw [show t⁻¹*t⁻¹=(t*t)⁻¹ by grind] at h3
   exact (qE h.inv h3).elim
theorem QgP {t v:Rat} (hv:U2 v) (h:t*t=2*v):False:=by
 have h0:t≠0:=fun e=>by
  rw [e,Rat.zero_mul] at h
  exact hv.ne (by grind)
 have ev:E2 (t*t):=by rw [h]; exact E2.two hv.i2
 have half:∀ x,I2 x→x*2=v→False:=fun x hx e=>qE hv (by rw [← e,Rat.mul_comm]; exact E2.two hx)
 rcases QcP (x:=t) (y:=1) h0 (by decide) with h1 | h1
 ·rw [Rat.div_def,show (1:Rat)⁻¹=1 by grind,Rat.mul_one] at h1
  rcases ue h1 with h2 | h2
  ·exact qE (h2.mul h2) ev
  ·exact half (t / 2*(t / 2)) (I2.mul h2 h2) (by grind)
 ·rw [Rat.div_def,Rat.one_mul] at h1
  have h3:=ev.mul (h1.mul h1)
  rw [show t*t*(t⁻¹*t⁻¹)=1 by
   have:=Rat.mul_inv_cancel _ h0
   grind] at h3
  exact qE F4.one.u2 h3
theorem U2.odd {z:Int} (h:z % 2=1):U2 (z:Rat):=⟨z,1,h,rfl,by rw [show ((1:Int):Rat)=1 from rfl,Rat.mul_one]⟩
theorem I2.den {a b:Int} (h:I2 ((a:Rat) / (b:Rat))) (hb:b≠0):∃ c d:Int,d % 2=1∧a*d=c*b:=by
 obtain ⟨c,d,hd,e⟩:=h
 refine ⟨c,d,hd,Rat.intCast_inj.1 ?_⟩
 have hb0:((b:Int):Rat)≠0:=fun e=>hb (Rat.intCast_inj.1 (e.trans (show (0:Rat)=((0:Int):Rat) from rfl)))
 rw [Rat.intCast_mul,Rat.intCast_mul,← e]
 have:=Rat.div_mul_cancel (a:=(a:Rat)) hb0
 grind
theorem F4.int {z:Int} (h:F4 (z:Rat)):z % 4=1:=by
 have h1:I2 (((z - 1:Int):Rat) / ((4:Int):Rat)):=by
  rw [Rat.intCast_sub]; exact h
 obtain ⟨c,d,hd,e⟩:=h1.den (by decide)
 have h2:(z - 1) % 4=0:=by
  have h3:((z - 1)*d) % 4=0:=by rw [e]; exact Int.mul_emod_left c 4
  rw [Int.mul_emod] at h3
  rcases show d % 4=1∨d % 4=3 by omega with h4 | h4<;>rw [h4] at h3<;>omega
 omega
theorem QfQ:∀ m,sg m*sg m=1
 | 0=>by show (1:Rat)*1=1; exact Rat.mul_one 1
 | m+1=>by
  show -sg m * -sg m=1
  have:=QfQ m
  grind
theorem Qjk:∀ m,p2 (2*m)=p2 m*p2 m
 | 0=>by show (1:Rat)=1*1; exact (Rat.mul_one 1).symm
 | m+1=>by
  show 2*(2*p2 (2*m))=2*p2 m*(2*p2 m)
  rw [Qjk m]; grind
theorem Qjg:∀ m,p2 m≠0
 | 0=>by show (1:Rat)≠0; decide
 | m+1=>fun e=>Qjg m (by
  have e:2*p2 m=0:=e
  grind)
theorem Qcn {D d m:Nat} {s:Int} {z u:Rat} (hs:(s:Rat)=sg m) (hu:F4 u) (hD:((D:Int):Rat)=sg m*(z*z*u)) (h0:0 < D) (h:Fq.Cnd D s s d):d % 2=1:=by
 obtain ⟨h1,-,w,hw⟩:=h
 rcases h1 with ⟨h2,-⟩ | ⟨h2,h3,h4⟩
 ·rcases show d % 2=1∨d % 2=0 by omega with h5 | h5
  ·exact h5
  ·exfalso
   obtain ⟨k,rfl⟩:∃ k,d=2*k:=⟨d / 2,by omega⟩
   have:s*((2*k:Nat):Int)=2*(s*(k:Int)):=by rw [Int.natCast_mul]; show s*(2*(k:Int))=_; grind
   omega
 ·exfalso
  have hs2:s*s=1:=Rat.intCast_inj.1 (by rw [Rat.intCast_mul,hs]; exact QfQ m)
  have hs1:s=1∨s = -1:=by
   have:s.natAbs*s.natAbs=1:=by rw [← Int.natAbs_mul,hs2]; rfl
   have:=Nat.eq_one_of_mul_eq_one_left this
   omega
  obtain ⟨a,rfl⟩:∃ a,d=4*a:=⟨d / 4,by rcases hs1 with rfl | rfl<;>omega⟩
  have h3:(s*(a:Int)) % 4 > 1:=by
   rcases hs1 with rfl | rfl<;>omega
  obtain ⟨t,ht⟩:∃ t:Rat,t=z*((w:Int):Rat) / (2*((D:Int):Rat)):=⟨_,rfl⟩
  have hD0:((D:Int):Rat)≠0:=fun e=>by
   have:=Rat.intCast_inj.1 (e.trans (show (0:Rat)=((0:Int):Rat) from rfl))
   omega
  have e1:((D:Int):Rat)*(4*((a:Int):Rat))=((w:Int):Rat)*((w:Int):Rat):=by
   have:((D*(4*a):Nat):Int)=((w*w:Nat):Int):=by rw [hw]
   rw [Int.natCast_mul,Int.natCast_mul,Int.natCast_mul] at this
   have:=congrArg (fun x:Int=>(x:Rat)) this
   simp only [Rat.intCast_mul] at this
   exact this
  have e2:((s*(a:Int):Int):Rat)=t*t*u:=by
   rw [Rat.intCast_mul,hs]
   have e3:t*(2*((D:Int):Rat))=z*((w:Int):Rat):=by rw [ht]; exact Rat.div_mul_cancel (by grind)
   have e4:=QfQ m
   have e5:sg m*((D:Int):Rat)=z*z*u:=by rw [hD]; grind
   have e6:(sg m*((a:Int):Rat) - t*t*u)*(4*(((D:Int):Rat)*((D:Int):Rat)))=0:=by
    have e7:t*t*u*(4*(((D:Int):Rat)*((D:Int):Rat)))=(t*(2*((D:Int):Rat)))*(t*(2*((D:Int):Rat)))*u:=by grind
    have e8:sg m*((a:Int):Rat)*(4*(((D:Int):Rat)*((D:Int):Rat)))=(sg m*((D:Int):Rat))*(((D:Int):Rat)*(4*((a:Int):Rat))):=by grind
    rw [show (sg m*((a:Int):Rat) - t*t*u)*(4*(((D:Int):Rat)*((D:Int):Rat)))=sg m*((a:Int):Rat)*(4*(((D:Int):Rat)*((D:Int):Rat))) - t*t*u*(4*(((D:Int):Rat)*((D:Int):Rat))) by grind,e7,e8,e3,e5,e1]
    grind
   rcases Rat.mul_eq_zero.1 e6 with h | h
   ·grind
   ·exfalso
    have:((D:Int):Rat)*((D:Int):Rat)=0:=by grind
    rcases Rat.mul_eq_zero.1 this with h | h<;>exact hD0 h
  have hu2:=hu.u2
  rcases show (s*(a:Int)) % 4=3∨(s*(a:Int)) % 4=2 by omega with h5 | h5
  ·have h6:U2 (t*t):=by
    have h7:=(U2.odd (z:=s*(a:Int)) (by omega)).mul hu2.inv
    rw [e2] at h7
    rwa [show t*t*u*u⁻¹=t*t by
     have:=Rat.mul_inv_cancel _ hu2.ne
     grind] at h7
   have h8:=(F4.sq (QhX h6)).mul hu
   rw [← e2] at h8
   have:=h8.int
   omega
  ·obtain ⟨b,hb⟩:∃ b,s*(a:Int)=2*b:=⟨s*(a:Int) / 2,by omega⟩
   refine QgP (t:=t) (v:=(b:Rat)*u⁻¹) ((U2.odd (by omega)).mul hu2.inv) ?_
   rw [hb,Rat.intCast_mul,show ((2:Int):Rat)=2 from rfl] at e2
   have:=Rat.mul_inv_cancel _ hu2.ne
   grind
theorem Qep {D d m:Nat} {s:Int} {z u:Rat} (hs1:s=1∨s = -1) (hz:z≠0) (hu:U2 u) (hD:((D:Int):Rat)=p2 (2*m)*(z*z*u)) (h:Fq.Cnd D s s d):d % 2=1∨∃ a,d=4*a∧a % 2=1:=by
 obtain ⟨h1,-,w,hw⟩:=h
 rcases h1 with ⟨h2,-⟩ | ⟨h2,h3,h4⟩
 ·left
  rcases hs1 with rfl | rfl<;>omega
 ·right
  obtain ⟨a,rfl⟩:∃ a,d=4*a:=⟨d / 4,by rcases hs1 with rfl | rfl<;>omega⟩
  refine ⟨a,rfl,?_⟩
  have h3:(s*(a:Int)) % 4 > 1:=by
   rcases hs1 with rfl | rfl<;>omega
  rcases show a % 2=1∨a % 4=2 by rcases hs1 with rfl | rfl<;>omega with h5 | h5
  ·exact h5
  ·exfalso
   obtain ⟨b,rfl⟩:∃ b,a=2*b:=⟨a / 2,by omega⟩
   have hy0:p2 m*z≠0:=fun e=>by
    rcases Rat.mul_eq_zero.1 e with h | h
    ·exact Qjg m h
    ·exact hz h
   obtain ⟨y,hy⟩:∃ y,y=p2 m*z:=⟨_,rfl⟩
   have hD':((D:Int):Rat)=y*y*u:=by rw [hD,Qjk,hy]; grind
   rw [← hy] at hy0
   have e1:((D:Int):Rat)*(4*(2*((b:Int):Rat)))=((w:Int):Rat)*((w:Int):Rat):=by
    have:((D*(4*(2*b)):Nat):Int)=((w*w:Nat):Int):=by rw [hw]
    rw [Int.natCast_mul,Int.natCast_mul,Int.natCast_mul,Int.natCast_mul] at this
    have:=congrArg (fun x:Int=>(x:Rat)) this
    simp only [Rat.intCast_mul] at this
    exact this
   obtain ⟨t,ht⟩:∃ t:Rat,t=((w:Int):Rat) / (2*y):=⟨_,rfl⟩
   have e3:t*(2*y)=((w:Int):Rat):=by rw [ht]; exact Rat.div_mul_cancel (by grind)
   refine QgP (t:=t) (v:=((b:Int):Rat)*u) ((U2.odd (by omega)).mul hu) ?_
   have e6:(t*t - 2*(((b:Int):Rat)*u))*(4*(y*y))=0:=by
    rw [show (t*t - 2*(((b:Int):Rat)*u))*(4*(y*y))=(t*(2*y))*(t*(2*y)) - (y*y*u)*(4*(2*((b:Int):Rat))) by grind,e3,← hD',e1]
    grind
   rcases Rat.mul_eq_zero.1 e6 with h | h
   ·grind
   ·exfalso
    have:y*y=0:=by grind
    rcases Rat.mul_eq_zero.1 this with h | h<;>exact hy0 h
end Go.Tw

/- The discriminant of an even form divides its level. Plain. -/
namespace Go.Tw
open Go.La (Mx sm det mm idm)
open Go.Fq (Prm Sqf)
theorem Qfo:∀ {n:Nat} {f:Nat→Rat},(∀ k,k < n→∃ z:Int,f k=(z:Rat))→∃ z:Int,sm n f=(z:Rat)
 | 0,_,_=>⟨0,rfl⟩
 | n+1,f,h=>by
  obtain ⟨a,ha⟩:=Qfo (n:=n) fun k hk=>h k (by omega)
  obtain ⟨b,hb⟩:=h n (by omega)
  refine ⟨a+b,?_⟩
  show sm n f+f n=_
  rw [ha,hb,Rat.intCast_add]
theorem yr:∀ j:Nat,∃ z:Int,(La.sgn j:Rat)=(z:Rat)
 | 0=>⟨1,rfl⟩
 | j+1=>by
  obtain ⟨z,hz⟩:=yr j
  refine ⟨-z,?_⟩
  show -(La.sgn j:Rat)=_
  rw [hz,Rat.intCast_neg]
theorem vQ:∀ {n:Nat} {A:Mx Rat},(∀ i j,i < n→j < n→∃ z:Int,A i j=(z:Rat))→∃ z:Int,det n A=(z:Rat)
 | 0,_,_=>⟨1,rfl⟩
 | n+1,A,h=>by
  show ∃ z:Int,(sm (n+1) fun j=>La.sgn j*(A 0 j*det n (La.minor A j)))=(z:Rat)
  refine Qfo fun j hj=>?_
  obtain ⟨a,ha⟩:=yr j
  obtain ⟨b,hb⟩:=h 0 j (by omega) hj
  obtain ⟨c,hc⟩:=vQ (n:=n) (A:=La.minor A j) fun i k hi hk=>h _ _ (by omega) (La.skip_lt hk)
  exact ⟨a*(b*c),by rw [ha,hb,hc,Rat.intCast_mul,Rat.intCast_mul]⟩
theorem QbG {c:Int}:∀ {n:Nat},det n (fun i j=>if i=j then (c:Rat) else 0)=((c ^ n:Int):Rat)
 | 0=>by rw [Int.pow_zero]; rfl
 | n+1=>by
  rw [VE fun j _=>if_neg (by omega),if_pos rfl]
  have e:det n (fun i j=>if i+1=j+1 then (c:Rat) else 0)=det n (fun i j=>if i=j then (c:Rat) else 0):=La.det_congr fun i j _ _=>by
   by_cases h:i=j
   ·rw [if_pos h,if_pos (by omega)]
   ·rw [if_neg h,if_neg (by omega)]
  rw [e,QbG,Int.pow_succ,Rat.intCast_mul,Rat.mul_comm]
theorem QhJ {n N D:Nat} {A X:Mx Rat} (inv:∀ i j,i < n→j < n→(sm n fun k=>A i k*X k j)=if i=j then 1 else 0)
  (hX:∀ i j,i < n→j < n→∃ z:Int,((N:Int):Rat)*X i j=(z:Rat)) (hD:det n A=((D:Int):Rat)):D ∣ N ^ n:=by
 obtain ⟨b,hb⟩:=vQ (n:=n) (A:=fun i j=>((N:Int):Rat)*X i j) hX
 have h1:=La.det_mm (n:=n) A (fun i j=>((N:Int):Rat)*X i j)
 have h2:det n (mm n A fun i j=>((N:Int):Rat)*X i j)=det n (fun i j=>if i=j then (((N:Int)):Rat) else 0):=La.det_congr fun i j hi hj=>by
  show (sm n fun k=>A i k*(((N:Int):Rat)*X k j))=_
  refine Eq.trans (La.sm_congr (g:=fun k=>((N:Int):Rat)*(A i k*X k j)) fun k _=>by grind) ?_
  refine (La.sm_mul n ((N:Int):Rat) fun k=>A i k*X k j).trans ?_
  rw [inv i j hi hj]
  show ((N:Int):Rat)*(if i=j then 1 else 0)=_
  by_cases e:i=j
  ·rw [if_pos e,if_pos e,Rat.mul_one]
  ·rw [if_neg e,if_neg e,Rat.mul_zero]
 rw [h2,QbG,hD,hb] at h1
 have h3:(((N:Int) ^ n:Int):Rat)=(((D:Int)*b:Int):Rat):=by rw [Rat.intCast_mul]; exact h1
 have h4:=Rat.intCast_inj.1 h3
 have h5:((D:Nat):Int) ∣ ((N ^ n:Nat):Int):=⟨b,by rw [Int.natCast_pow]; exact h4⟩
 exact Int.natCast_dvd_natCast.1 h5
theorem QdS {q N:Nat} (hq:Prm q):∀ {n:Nat},q ∣ N ^ n→q ∣ N
 | 0,h=>by
  have:=hq.two
  rw [Nat.pow_zero] at h
  have h1:=Nat.le_of_dvd (by decide) h
  omega
 | n+1,h=>by
  rw [Nat.pow_succ] at h
  rcases Fq.prm_mul hq h with h | h
  ·exact QdS hq h
  ·exact h
theorem qL {c o N D w n:Nat} (hc:c=1∨c=4∨c=8) (ho:Sqf o) (hodd:o % 2=1) (hw:D*(c*o)=w*w) (hp:D ∣ N ^ n):o ∣ N:=by
 refine Fq.sqf_dvd N ho fun q hq hqo=>?_
 have hq2:¬ q ∣ 2:=fun h=>by
  have h1:=Nat.le_of_dvd (by decide) h
  have:=hq.two
  obtain rfl:q=2:=by omega
  omega
 have hqc:¬ q ∣ c:=fun h=>by
  rcases hc with rfl | rfl | rfl
  ·have:=hq.two
   have:=Nat.le_of_dvd (by decide) h
   omega
  ·rcases Fq.prm_mul hq (show q ∣ 2*2 from h) with h | h<;>exact hq2 h
  ·rcases Fq.prm_mul hq (show q ∣ 2*(2*2) from h) with h | h
   ·exact hq2 h
   ·rcases Fq.prm_mul hq h with h | h<;>exact hq2 h
 have hqD:q ∣ D:=by
  obtain ⟨o',rfl⟩:=hqo
  have h1:q ∣ w*w:=⟨D*(c*o'),by rw [← hw]; grind⟩
  have h2:q ∣ w:=by rcases Fq.prm_mul hq h1 with h | h<;>exact h
  obtain ⟨w',rfl⟩:=h2
  have h3:D*(c*o')=q*(w'*w'):=by
   refine Nat.eq_of_mul_eq_mul_left (show 0 < q by have:=hq.two; omega) ?_
   rw [show q*(D*(c*o'))=D*(c*(q*o')) by grind,hw]; grind
  rcases Fq.prm_mul hq (show q ∣ D*(c*o') from ⟨_,h3⟩) with h | h
  ·exact h
  ·rcases Fq.prm_mul hq h with h | h
   ·exact absurd h hqc
   ·exfalso
    have:=ho.2 q (Nat.mul_dvd_mul_left q h)
    have:=hq.two
    omega
 exact QdS hq (Nat.dvd_trans hqD hp)
theorem join4 {o N:Nat} (ho:o % 2=1) (h4:4 ∣ N) (h:o ∣ N):4*o ∣ N:=by
 obtain ⟨t,rfl⟩:=h
 have h1:(o*t) % 4=0:=by omega
 rw [Nat.mul_mod] at h1
 have h2:t % 4=0:=by
  rcases show o % 4=1∨o % 4=3 by omega with h | h<;>rw [h] at h1<;>omega
 obtain ⟨k,rfl⟩:∃ k,t=4*k:=⟨t / 4,by omega⟩
 exact ⟨k,by grind⟩
theorem join8 {o N:Nat} (ho:o % 2=1) (h8:8 ∣ N) (h:o ∣ N):8*o ∣ N:=by
 obtain ⟨t,rfl⟩:=h
 have h1:(o*t) % 8=0:=by omega
 rw [Nat.mul_mod] at h1
 have h2:t % 8=0:=by
  rcases show o % 8=1∨o % 8=3∨o % 8=5∨o % 8=7 by omega with h | h | h | h<;>rw [h] at h1<;>omega
 obtain ⟨k,rfl⟩:∃ k,t=8*k:=⟨t / 8,by omega⟩
 exact ⟨k,by grind⟩
theorem lev_disc {n m N D d:Nat} {s:Int} {A X:Mx Rat} (hn:n=2*m) (hs:(s:Rat)=sg m) (hs1:s=1∨s = -1) (symA:∀ i j,i < n→j < n→A i j=A j i) (symX:∀ i j,i < n→j < n→X i j=X j i)
  (hA:∀ i j,i < n→j < n→∃ z:Int,A i j=(z:Rat)) (hAe:∀ i,i < n→∃ z:Int,A i i=2*(z:Rat)) (inv:∀ i j,i < n→j < n→(sm n fun k=>A i k*X k j)=if i=j then 1 else 0)
  (hX:∀ i j,i < n→j < n→∃ z:Int,((N:Int):Rat)*X i j=(z:Rat)) (hXe:∀ i,i < n→∃ z:Int,((N:Int):Rat)*X i i=2*(z:Rat)) (hD:det n A=((D:Int):Rat)) (h0:0 < D) (h:Fq.Cnd D s s d):d ∣ N:=by
 have hp:=QhJ inv hX hD
 have mk:∀ (e N1:Int),N1 % 2=1→(N:Int)=e*N1→Spl (e:Rat) n ((D:Int):Rat):=fun e N1 h1 h2=>by
  rw [← hD]
  refine Ev.spl n (X:=X) ⟨symA,symX,fun i j hi hj=>?_,fun i hi=>?_,inv,fun i j hi hj=>?_,fun i hi=>?_⟩
  ·obtain ⟨z,hz⟩:=hA i j hi hj
   rw [hz]; exact I2.int z
  ·obtain ⟨z,hz⟩:=hAe i hi
   rw [hz]; exact E2.two (I2.int z)
  ·obtain ⟨z,hz⟩:=hX i j hi hj
   refine ⟨z,N1,h1,?_⟩
   rw [← hz,h2,Rat.intCast_mul]; grind
  ·obtain ⟨z,hz⟩:=hXe i hi
   refine ⟨z,N1,h1,?_⟩
   rw [h2,Rat.intCast_mul] at hz
   grind
 have two:d % 2=1∨(4 ∣ N∧∃ a,d=4*a∧a % 2=1)∨8 ∣ N:=by
  rcases show N % 2=1∨N % 4=2∨N % 8=4∨N % 8=0 by omega with h1 | h1 | h1 | h1
  ·obtain ⟨m',z,u,e1,hz,hu,e2⟩:=(mk 1 N (by omega) (by omega)).small (.inl rfl)
   obtain rfl:m'=m:=by omega
   exact .inl (Qcn hs hu e2 h0 h)
  ·obtain ⟨m',z,u,e1,hz,hu,e2⟩:=(mk 2 (N / 2:Nat) (by omega) (by omega)).small (.inr rfl)
   obtain rfl:m'=m:=by omega
   exact .inl (Qcn hs hu e2 h0 h)
  ·obtain ⟨z,u,hz,hu,e2⟩:=(show Spl 4 n ((D:Int):Rat) from mk 4 (N / 4:Nat) (by omega) (by omega)).four
   rw [hn] at e2
   rcases Qep hs1 hz hu e2 h with h2 | h2
   ·exact .inl h2
   ·exact .inr (.inl ⟨by omega,h2⟩)
  ·exact .inr (.inr (by omega))
 obtain ⟨h1,-,w,hw⟩:=h
 rcases h1 with ⟨h2,h3⟩ | ⟨h2,h3,h4⟩
 ·have hodd:d % 2=1:=by rcases hs1 with rfl | rfl<;>omega
  exact qL (c:=1) (.inl rfl) h3 hodd (by rw [Nat.one_mul]; exact hw) hp
 ·obtain ⟨a,rfl⟩:∃ a,d=4*a:=⟨d / 4,by rcases hs1 with rfl | rfl<;>omega⟩
  have h4:Sqf a:=by rwa [Nat.mul_div_cancel_left _ (by decide)] at h4
  rcases two with h5 | ⟨h5,a',e,h6⟩ | h5
  ·omega
  ·obtain rfl:a=a':=by omega
   have h7:=qL (c:=4) (.inr (.inl rfl)) h4 h6 hw hp
   exact join4 h6 h5 h7
  ·rcases show a % 2=1∨a % 4=2 by rcases hs1 with rfl | rfl<;>omega with h6 | h6
   ·exact join4 h6 (Nat.dvd_trans (by decide) h5) (qL (c:=4) (.inr (.inl rfl)) h4 h6 hw hp)
   ·obtain ⟨o,rfl⟩:∃ o,a=2*o:=⟨a / 2,by omega⟩
    have h7:=join8 (o:=o) (by omega) h5 (qL (c:=8) (.inr (.inr rfl)) (h4.of_dvd ⟨2,by grind⟩) (by omega) (by rw [← hw]; grind) hp)
    rwa [show 4*(2*o)=8*o by grind]
end Go.Tw
