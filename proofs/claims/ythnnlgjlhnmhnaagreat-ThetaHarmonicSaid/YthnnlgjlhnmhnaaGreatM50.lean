/- Texts of this seat's own, merged: each begins with its own remark. -/
import Derived.Test.YthnnlgjlhnmhnaaGreatM48
import Derived.Test.YthnnlgjlhnmhnaaGreatM19
import Derived.Test.YthnnlgjlhnmhnaaGreatM40
import Derived.Test.YthnnlgjlhnmhnaaGreatM1
/- Determinants of integers without fractions (Bareiss). No condition. -/
namespace Go.Bz
open Go.La (Fld Mx setr Qq setr_ne swap swap_at swap_ne)
section
variable {K:Type} [Fld K]
theorem det_uni {n:Nat} {u a:Mx K} (h:∀ i,i < n→∃ c:Nat→K,∀ j,j < n→u i j=a i j+La.sm i fun t=>c t*u t j):La.det n u=La.det n a:=by
 have main:∀ s,s≤n→La.det n (fun i=>if i < s then u i else a i)=La.det n a:=by
  intro s
  induction s with
  | zero=>exact fun _=>La.det_congr fun i j _ _=>by rw [if_neg (Nat.not_lt_zero i)]
  | succ s ih =>
   intro hs
   rw [← ih (by omega)]
   obtain ⟨c,hc⟩:=h s (by omega)
   let M:Mx K:=fun i=>if i < s then u i else a i
   have hMs:M s=a s:=if_neg (Nat.lt_irrefl s)
   have key:∀ t,t≤s→La.det n (setr M s fun j=>a s j+La.sm t fun t=>c t*u t j)=La.det n M:=by
    intro t
    induction t with
    | zero =>
     intro _
     refine La.det_congr fun i j _ _=>?_
     by_cases e:i=s
     ·subst e; rw [Qq,hMs]; exact La.add_zero _
     ·rw [setr_ne _ _ e]
    | succ t iht =>
     intro ht
     rw [← iht (by omega),← (La.det_alt n).comb (p:=s) (q:=t) (by omega) (by omega) (by omega) (c t) (setr M s fun j=>a s j+La.sm t fun t=>c t*u t j)]
     refine La.det_congr fun i j _ _=>?_
     by_cases e:i=s
     ·subst e
      rw [Qq,Qq,Qq,setr_ne _ _ (by omega)]
      have:M t=u t:=if_pos (by omega)
      rw [this,La.add_assoc]; rfl
     ·rw [setr_ne _ _ e,setr_ne _ _ e,setr_ne _ _ e]
   rw [← show La.det n M=La.det n (fun i=>if i < s then u i else a i) from rfl,← key s (Nat.le_refl s)]
   refine La.det_congr fun i j _ hj=>?_
   by_cases e:i=s
   ·subst e
    rw [Qq,if_pos (Nat.lt_succ_self i)]
    exact hc j hj
   ·rw [setr_ne _ _ e]
    show (if i < s+1 then u i else a i) j=(if i < s then u i else a i) j
    by_cases e2:i < s
    ·rw [if_pos e2,if_pos (by omega)]
    ·rw [if_neg e2,if_neg (by omega)]
 rw [← main n (Nat.le_refl n)]
 exact La.det_congr fun i j hi _=>by rw [if_pos hi]
theorem QiU {m n:Nat} (h:m≤n) (c f:Nat→K):La.sm n (fun t=>(if t < m then c t else 0)*f t)=La.sm m fun t=>c t*f t:=by
 obtain ⟨d,rfl⟩:∃ d,n=m+d:=⟨n - m,by omega⟩
 rw [La.sm_app,La.sm_zero (n:=d) fun t _=>by rw [if_neg (by omega),La.zero_mul],La.add_zero]
 exact La.sm_congr fun t ht=>by rw [if_pos ht]
def dg (u:Mx K):Nat→K
 | 0=>1
 | k+1=>dg u k*u k k
theorem jI:∀ {n:Nat} {u:Mx K},(∀ i j,i < n→j < i→u i j=0)→La.det n u=dg u n
 | 0,_,_=>rfl
 | n+1,u,h=>by
  rw [← Lr.det_la,Lr.det_last fun j hj=>h n j (by omega) hj,Lr.det_la,jI fun i j hi hj=>h i j (by omega) hj]
  rfl
theorem jv {u w:Mx K}:∀ {k:Nat},(∀ i,i < k→u i i=w i i)→dg u k=dg w k
 | 0,_=>rfl
 | k+1,h=>by show dg u k*u k k=dg w k*w k k; rw [jv fun i hi=>h i (by omega),h k (by omega)]
end
structure Br (n:Nat) (A:Mx Int) (k:Nat) (A':Mx Int) (u:Mx Rat) (a:Mx Int) (last sign:Int):Prop where
 ne:dg u k≠0
 last:(last:Rat)=dg u k
 sg:La.det n (fun i j=>(A i j:Rat))=(sign:Rat)*La.det n (fun i j=>(A' i j:Rat))
 tri:∀ i j,i < n→j < i→j < k→u i j=0
 comb:∀ i,i < n→∃ c:Nat→Rat,∀ j,j < n→u i j=(A' i j:Rat)+La.sm (min i k) fun t=>c t*u t j
 val:∀ i j,k≤i→i < n→k≤j→j < n→(a i j:Rat)=dg u k*u i j
theorem Br.start {n:Nat} {A:Mx Int}:Br n A 0 A (fun i j=>(A i j:Rat)) A 1 1 where
 ne:=La.one_ne
 last:=rfl
 sg:=by rw [show ((1:Int):Rat)=1 from rfl,Rat.one_mul]
 tri i j _ _ h:=absurd h (Nat.not_lt_zero j)
 comb i _:=⟨fun _=>0,fun j _=>by rw [Nat.min_zero]; exact (Rat.add_zero _).symm⟩
 val i j _ _ _ _:=by show _=1*_; rw [Rat.one_mul]
theorem Br.swap {n k p:Nat} {A A' a:Mx Int} {u:Mx Rat} {last sign:Int} (h:Br n A k A' u a last sign) (hk:k < p) (hp:p < n):Br n A k (La.swap A' p k) (La.swap u p k) (La.swap a p k) last (-sign):=by
 have hu:∀ t,t < k→La.swap u p k t=u t:=fun t ht=>La.swap_ne (by omega) (by omega)
 have hdg:dg (La.swap u p k) k=dg u k:=jv fun i hi=>by rw [hu i hi]
 refine ⟨by rw [hdg]; exact h.ne,by rw [hdg]; exact h.last,?_,fun i j hi hj hjk=>?_,fun i hi=>?_,fun i j h1 h2 h3 h4=>?_⟩
 ·rw [h.sg]
  have e:La.det n (fun i j=>((La.swap A' p k i j:Int):Rat)) = -La.det n (fun i j=>(A' i j:Rat)):=by
   rw [← (La.det_alt n).swap hp (show k < n by omega) (by omega)]
   refine La.det_congr fun i j _ _=>?_
   unfold La.swap
   split
   ·rfl
   ·split<;>rfl
  rw [e,Rat.intCast_neg]
  grind
 ·by_cases e1:i=p
  ·subst e1; rw [La.swap_at.1]; exact h.tri k j (by omega) (by omega) hjk
  ·by_cases e2:i=k
   ·subst e2; rw [La.swap_at.2]; exact h.tri p j hp (by omega) hjk
   ·rw [La.swap_ne e1 e2]; exact h.tri i j hi hj hjk
 ·have key:∀ b,b < n→min b k=min i k→La.swap u p k i=u b→La.swap A' p k i=A' b→∃ c:Nat→Rat,∀ j,j < n→La.swap u p k i j=((La.swap A' p k i j:Int):Rat)+La.sm (min i k) fun t=>c t*La.swap u p k t j:=fun b hb hm e1 e2=>by
   obtain ⟨c,hc⟩:=h.comb b hb
   refine ⟨c,fun j hj=>?_⟩
   rw [e1,e2,hc j hj,hm]
   congr 1
   exact La.sm_congr fun t ht=>by rw [hu t (by omega)]
  by_cases e1:i=p
  ·subst e1; exact key k (by omega) (by omega) La.swap_at.1 La.swap_at.1
  ·by_cases e2:i=k
   ·subst e2; exact key p hp (by omega) La.swap_at.2 La.swap_at.2
   ·exact key i hi rfl (La.swap_ne e1 e2) (La.swap_ne e1 e2)
 ·rw [hdg]
  by_cases e1:i=p
  ·subst e1; rw [La.swap_at.1,La.swap_at.1]; exact h.val k j (Nat.le_refl k) (by omega) h3 h4
  ·by_cases e2:i=k
   ·subst e2; rw [La.swap_at.2,La.swap_at.2]; exact h.val p j (by omega) hp h3 h4
   ·rw [La.swap_ne e1 e2,La.swap_ne e1 e2]; exact h.val i j h1 h2 h3 h4
theorem Br.step {n k:Nat} {A A' a:Mx Int} {u:Mx Rat} {last sign:Int} (h:Br n A k A' u a last sign) (hk:k < n) (h0:a k k≠0):∃ b:Mx Int,
  (∀ i j,k < i→i < n→k < j→j < n→a i j*a k k - a i k*a k j=b i j*last) ∧
   ∀ a':Mx Int,(∀ i j,k < i→i < n→k < j→j < n→a' i j=b i j)→Br n A (k+1) A' (fun i j=>if k < i then u i j - u i k / u k k*u k j else u i j) a' (a k k) sign:=by
 let w:Mx Rat:=fun i j=>if k < i then u i j - u i k / u k k*u k j else u i j
 have hw:∀ i,i≤k→w i=u i:=fun i hi=>funext fun j=>if_neg (by omega)
 have hwg:∀ i j,k < i→w i j=u i j - u i k / u k k*u k j:=fun i j hi=>if_pos hi
 have hkk:=h.val k k (Nat.le_refl k) hk (Nat.le_refl k) hk
 have hu0:u k k≠0:=fun e=>h0 (by
  rw [e,Rat.mul_zero] at hkk
  exact Rat.intCast_eq_zero_iff.1 hkk)
 have hdw:∀ t,t≤k+1→dg w t=dg u t:=fun t ht=>jv fun i hi=>by rw [hw i (by omega)]
 have hdk:dg u (k+1)=dg u k*u k k:=rfl
 have hlast:(a k k:Rat)=dg w (k+1):=by rw [hdw _ (Nat.le_refl _),hdk]; exact hkk
 have htri:∀ i j,i < n→j < i→j < k+1→w i j=0:=fun i j hi hj hjk=>by
  by_cases e:k < i
  ·rw [hwg i j e]
   by_cases e2:j=k
   ·subst e2
    rw [Rat.div_mul_cancel hu0,Rat.sub_self]
   ·rw [h.tri i j hi hj (by omega),h.tri k j hk (by omega) (by omega),Rat.mul_zero,Rat.sub_self]
  ·rw [hw i (by omega)]; exact h.tri i j hi hj (by omega)
 have hcomb:∀ i,i < n→∃ c:Nat→Rat,∀ j,j < n→w i j=(A' i j:Rat)+La.sm (min i (k+1)) fun t=>c t*w t j:=fun i hi=>by
  obtain ⟨c,hc⟩:=h.comb i hi
  by_cases e:k < i
  ·refine ⟨fun t=>if t < k then c t else -(u i k / u k k),fun j hj=>?_⟩
   rw [hwg i j e,hc j hj,show min i (k+1)=k+1 by omega,show min i k=k by omega]
   show _=(A' i j:Rat)+((La.sm k fun t=>(if t < k then c t else -(u i k / u k k))*w t j)+(if k < k then c k else -(u i k / u k k))*w k j)
   rw [if_neg (Nat.lt_irrefl k),hw k (Nat.le_refl k),La.sm_congr (f:=fun t=>(if t < k then c t else -(u i k / u k k))*w t j) (g:=fun t=>c t*u t j) fun t ht=>by rw [if_pos ht,hw t (by omega)]]
   grind
  ·refine ⟨c,fun j hj=>?_⟩
   rw [hw i (by omega),hc j hj,show min i (k+1)=i by omega,show min i k=i by omega]
   congr 1
   exact La.sm_congr fun t ht=>by rw [hw t (by omega)]
 -- the bordered minors
 have hb:∀ i j,∃ z:Int,k < i→i < n→k < j→j < n→(z:Rat)=dg w (k+1)*w i j:=fun i j=>by
  by_cases e:k < i∧i < n∧k < j∧j < n
  ·obtain ⟨h1,h2,h3,h4⟩:=e
   let ri:Nat→Nat:=fun s=>if s≤k then s else i
   let cj:Nat→Nat:=fun s=>if s≤k then s else j
   have hri:∀ s,s < k+2→ri s < n:=fun s _=>by show (if s≤k then s else i) < n; split<;>omega
   have hcj:∀ s,s < k+2→cj s < n:=fun s _=>by show (if s≤k then s else j) < n; split<;>omega
   have hd1:La.det (k+2) (fun s t=>w (ri s) (cj t))=La.det (k+2) fun s t=>(A' (ri s) (cj t):Rat):=det_uni fun s hs=>by
    obtain ⟨c,hc⟩:=hcomb (ri s) (hri s hs)
    refine ⟨c,fun t ht=>?_⟩
    rw [hc _ (hcj t ht)]
    congr 1
    have e3:min (ri s) (k+1)=s:=by
     show min (if s≤k then s else i) (k+1)=s
     split<;>omega
    rw [e3]
    refine La.sm_congr fun x hx=>?_
    have:ri x=x:=if_pos (by omega)
    rw [this]
   have hd2:La.det (k+2) (fun s t=>w (ri s) (cj t))=dg w (k+1)*w i j:=by
    rw [jI fun s t hs ht=>by
     have e4:cj t=t:=if_pos (by omega)
     rw [e4]
     have e5:s≤ri s:=by show s≤if s≤k then s else i; split<;>omega
     exact htri _ _ (hri s hs) (by omega) (by omega)]
    show dg (fun s t=>w (ri s) (cj t)) (k+1)*w (ri (k+1)) (cj (k+1))=_
    rw [show ri (k+1)=i from if_neg (by omega),show cj (k+1)=j from if_neg (by omega)]
    congr 1
    refine jv fun x hx=>?_
    rw [show ri x=x from if_pos (by omega),show cj x=x from if_pos (by omega)]
   have hd3:=Fq.hom_q.det (k+2) fun s t=>A' (ri s) (cj t)
   refine ⟨Lr.det (k+2) fun s t=>A' (ri s) (cj t),fun _ _ _ _=>?_⟩
   rw [← hd2,hd1,← Lr.det_la]
   exact hd3
  ·exact ⟨0,fun h1 h2 h3 h4=>absurd ⟨h1,h2,h3,h4⟩ e⟩
 let b:Mx Int:=fun i j=>Classical.choose (hb i j)
 have hbs:∀ i j,k < i→i < n→k < j→j < n→(b i j:Rat)=dg w (k+1)*w i j:=fun i j=>Classical.choose_spec (hb i j)
 refine ⟨b,fun i j h1 h2 h3 h4=>?_,fun a' ha'=>⟨by rw [← hlast]; exact fun e=>h0 (Rat.intCast_eq_zero_iff.1 e),hlast,h.sg,htri,hcomb,fun i j h1 h2 h3 h4=>by rw [ha' i j (by omega) h2 (by omega) h4]; exact hbs i j (by omega) h2 (by omega) h4⟩⟩
 refine Rat.intCast_inj.1 ?_
 rw [Rat.intCast_sub,Rat.intCast_mul,Rat.intCast_mul,Rat.intCast_mul,hbs i j h1 h2 h3 h4,hwg i j h1,h.val i j (by omega) h2 (by omega) h4,h.val i k (by omega) h2 (Nat.le_refl k) hk,h.val k j (Nat.le_refl k) hk (by omega) h4,hkk,h.last,hdw _ (Nat.le_refl _),hdk]
 have e6:u i k / u k k*u k k=u i k:=Rat.div_mul_cancel hu0
 grind
theorem Br.done {n:Nat} {A A' a:Mx Int} {u:Mx Rat} {last sign:Int} (h:Br n A n A' u a last sign):Lr.det n A=sign*last:=by
 refine Rat.intCast_inj.1 ?_
 have h1:=Fq.hom_q.det n A
 rw [Lr.det_la] at h1
 rw [h1,h.sg,Rat.intCast_mul,h.last]
 congr 1
 rw [← jI fun i j hi hj=>h.tri i j hi hj (by omega)]
 refine (det_uni fun i hi=>?_).symm
 obtain ⟨c,hc⟩:=h.comb i hi
 exact ⟨c,fun j hj=>by rw [hc j hj,show min i n=i by omega]⟩
theorem Br.none {n k:Nat} {A A' a:Mx Int} {u:Mx Rat} {last sign:Int} (h:Br n A k A' u a last sign) (hk:k < n) (hz:∀ i,k≤i→i < n→a i k=0):Lr.det n A=0:=by
 have hu:∀ i,k≤i→i < n→u i k=0:=fun i h1 h2=>by
  have:=h.val i k h1 h2 (Nat.le_refl k) hk
  rw [hz i h1 h2] at this
  rcases La.mul_eq_zero this.symm with e | e
  ·exact absurd e h.ne
  ·exact e
 have h2:La.det n u=0:=by
  obtain ⟨x,⟨t,ht,hx0⟩,hx⟩:=La.kernel_ne k (k+1) u (Nat.lt_succ_self k)
  apply Classical.byContradiction
  intro hne
  rw [← La.det_tr] at hne
  have h3:=Fq.det_indep hne (x:=fun i=>if i < k+1 then x i else 0) fun j hj=>?_
  ·have:=h3 t (by omega)
   rw [if_pos ht] at this
   exact hx0 this
  ·have e:n=(k+1)+(n - (k+1)):=by omega
   rw [e,La.sm_app,La.sm_zero (n:=n - (k+1)) fun i _=>by rw [if_neg (by omega),Rat.zero_mul],Rat.add_zero]
   by_cases e2:j < k
   ·rw [← hx j e2]
    refine La.sm_congr fun i hi=>?_
    rw [if_pos hi,Rat.mul_comm]; rfl
   ·refine La.sm_zero fun i hi=>?_
    rw [if_pos hi]
    show x i*u j i=0
    by_cases e3:i=k
    ·subst e3; rw [hu j (by omega) hj,Rat.mul_zero]
    ·rw [h.tri j i hj (by omega) (by omega),Rat.mul_zero]
 have h1:=Fq.hom_q.det n A
 rw [Lr.det_la] at h1
 have h4:La.det n u=La.det n fun i j=>(A' i j:Rat):=det_uni fun i hi=>by
  obtain ⟨c,hc⟩:=h.comb i hi
  refine ⟨fun t=>if t < min i k then c t else 0,fun j hj=>?_⟩
  rw [hc j hj]
  congr 1
  exact (QiU (Nat.min_le_left i k) c fun t=>u t j).symm
 have h5:((Lr.det n A:Int):Rat)=0:=by rw [h1,h.sg,← h4,h2,Rat.mul_zero]
 exact Rat.intCast_eq_zero_iff.1 h5
end Go.Bz

/- Positive definite forms: the leading minors are positive. No condition. -/
namespace Go.La
structure Gs (n:Nat) (A:Mx Rat) (k:Nat) (P:Mx Rat):Prop where
 uni:∀ i,i < k→∃ c:Nat→Rat,∀ j,j < n→P i j=idm i j+sm i fun t=>c t*P t j
 sup:∀ i j,i < k→i < j→j < n→P i j=0
 one:∀ i,i < k→P i i=1
 ort:∀ i j,i < k→j < k→i≠j→bl n A (P i) (P j)=0
theorem Gs.zero {n:Nat} {A P:Mx Rat}:Gs n A 0 P:=⟨fun _ h=>absurd h (Nat.not_lt_zero _),fun _ _ h=>absurd h (Nat.not_lt_zero _),fun _ h=>absurd h (Nat.not_lt_zero _),fun _ _ h=>absurd h (Nat.not_lt_zero _)⟩
theorem Gs.next {n k:Nat} {A P:Mx Rat} (hA:∀ i j,i < n→j < n→A i j=A j i) (h:Gs n A k P) (hk:k < n) (hD:∀ t,t < k→bl n A (P t) (P t)≠0):∃ P',Gs n A (k+1) P'∧∀ t,t < k→P' t=P t:=by
 let c:Nat→Rat:=fun t => -(bl n A (idm k) (P t) / bl n A (P t) (P t))
 let v:Nat→Rat:=fun j=>idm k j+sm k fun t=>c t*P t j
 have hv:∀ t,t < k→bl n A v (P t)=0:=fun t ht=>by
  have e1:bl n A v (P t)=bl n A (idm k) (P t)+1*bl n A (fun j=>sm k fun t=>c t*P t j) (P t):=by
   rw [← QL]
   exact bl_congr (fun _ _ _ _=>rfl) (fun j _=>by show _=_+1*_; rw [Rat.one_mul]) fun _ _=>rfl
  rw [e1,VJ (T:=P) (r:=k) (c:=c) fun _ _=>rfl,sm_one t ht fun s hs hne=>by rw [h.ort s t hs ht hne,Rat.mul_zero]]
  show _+1*(-(bl n A (idm k) (P t) / bl n A (P t) (P t))*bl n A (P t) (P t))=0
  rw [Rat.neg_mul,Rat.div_mul_cancel (hD t ht)]
  grind
 refine ⟨setr P k v,⟨fun i hi=>?_,fun i j hi hj hjn=>?_,fun i hi=>?_,fun i j hi hj hne=>?_⟩,fun t ht=>setr_ne _ _ (by omega)⟩
 ·by_cases e:i=k
  ·subst e
   refine ⟨c,fun j _=>?_⟩
   rw [Qq]
   show idm i j+_=_
   congr 1
   exact sm_congr fun t ht=>by rw [setr_ne _ _ (by omega)]
  ·obtain ⟨c',hc⟩:=h.uni i (by omega)
   refine ⟨c',fun j hj=>?_⟩
   rw [setr_ne _ _ e,hc j hj]
   congr 1
   exact sm_congr fun t ht=>by rw [setr_ne _ _ (by omega)]
 ·by_cases e:i=k
  ·subst e
   rw [Qq]
   show idm i j+sm i (fun t=>c t*P t j)=0
   rw [show (idm i j:Rat)=0 from if_neg (by omega),sm_zero fun t ht=>by rw [h.sup t j ht (by omega) hjn,Rat.mul_zero]]
   exact Rat.add_zero _
  ·rw [setr_ne _ _ e]; exact h.sup i j (by omega) hj hjn
 ·by_cases e:i=k
  ·subst e
   rw [Qq]
   show idm i i+sm i (fun t=>c t*P t i)=1
   rw [show (idm i i:Rat)=1 from if_pos rfl,sm_zero fun t ht=>by rw [h.sup t i ht ht hk,Rat.mul_zero]]
   exact Rat.add_zero _
  ·rw [setr_ne _ _ e]; exact h.one i (by omega)
 ·by_cases e:i=k
  ·subst e
   rw [Qq,setr_ne _ _ (Ne.symm hne)]
   exact hv j (by omega)
  ·by_cases e2:j=k
   ·subst e2
    rw [Qq,setr_ne _ _ e,bl_symm hA]
    exact hv i (by omega)
   ·rw [setr_ne _ _ e,setr_ne _ _ e2]; exact h.ort i j (by omega) (by omega) hne
theorem QiG {n m:Nat} {A:Mx Rat} {x y:Nat→Rat} (hm:m≤n) (hx:∀ j,m≤j→j < n→x j=0) (hy:∀ j,m≤j→j < n→y j=0):bl n A x y=bl m A x y:=by
 obtain ⟨d,rfl⟩:∃ d,n=m+d:=⟨n - m,by omega⟩
 unfold bl
 rw [sm_app,sm_zero (n:=d) fun k hk=>by rw [hy (m+k) (by omega) (by omega),Rat.mul_zero],add_zero]
 refine sm_congr fun j _=>?_
 rw [sm_app,sm_zero (n:=d) fun k hk=>by rw [hx (m+k) (by omega) (by omega),Rat.zero_mul],add_zero]
theorem Gs.det {n m:Nat} {A P:Mx Rat} (h:Gs n A m P) (hm:m≤n):La.det m A=pd m fun i=>bl n A (P i) (P i):=by
 have hU:La.det m P=1:=by
  rw [Bz.det_uni (a:=(idm:Mx Rat)) fun i hi=>?_,qH]
  obtain ⟨c,hc⟩:=h.uni i hi
  exact ⟨c,fun j hj=>hc j (by omega)⟩
 have e1:La.det m (mm m (mm m P A) (tr P))=La.det m A:=by
  rw [QcU,QcU,det_tr,hU]; grind
 have hz:∀ i,i < m→∀ j,m≤j→j < n→P i j=0:=fun i hi j hj hjn=>h.sup i j hi (by omega) hjn
 have e2:∀ i j,i < m→j < m→mm m (mm m P A) (tr P) i j=bl n A (P i) (P j):=fun i j hi hj=>by
  rw [QiG hm (hz i hi) (hz j hj)]
  rfl
 rw [← e1,det_congr e2]
 refine yW fun i j hi hj hne=>?_
 exact h.ort i j hi hj hne
theorem Qdb:∀ {n:Nat} {f:Nat→Rat},(∀ i,i < n→0 < f i)→0 < pd n f
 | 0,_,_=>by show (0:Rat) < 1; decide
 | n+1,f,h=>Rat.mul_pos (Qdb fun i hi=>h i (by omega)) (h n (by omega))
theorem Qfw {n:Nat} {A:Mx Rat} (hA:∀ i j,i < n→j < n→A i j=A j i) (hd:∀ k,1≤k→k≤n→0 < det k A):∀ k,k≤n→∃ P,Gs n A k P∧∀ t,t < k→0 < bl n A (P t) (P t):=by
 intro k
 induction k with
 | zero=>exact fun _=>⟨A,Gs.zero,fun t h=>absurd h (Nat.not_lt_zero t)⟩
 | succ k ih =>
  intro hk
  obtain ⟨P,h1,h2⟩:=ih (by omega)
  obtain ⟨P',h3,h4⟩:=h1.next hA (by omega) fun t ht e=>by have:=h2 t ht; rw [e] at this; exact absurd this (by decide)
  refine ⟨P',h3,fun t ht=>?_⟩
  by_cases e:t=k
  ·subst e
   have h5:=h3.det hk
   have h6:=hd (t+1) (by omega) hk
   rw [h5] at h6
   have h7:pd t (fun i=>bl n A (P' i) (P' i))=pd t fun i=>bl n A (P i) (P i):=vJ fun i hi=>by rw [h4 i hi]
   have h8:0 < pd t fun i=>bl n A (P i) (P i):=Qdb h2
   have h9:0 < pd t (fun i=>bl n A (P i) (P i))*bl n A (P' t) (P' t):=by rw [← h7]; exact h6
   apply Classical.byContradiction
   intro hn
   have:=Rat.mul_le_mul_of_nonneg_left (c:=pd t fun i=>bl n A (P i) (P i)) (Rat.not_lt.1 hn) (Rat.le_of_lt h8)
   rw [Rat.mul_zero] at this
   exact absurd h9 (Rat.not_lt.2 this)
  ·rw [h4 t (by omega)]; exact h2 t (by omega)
def Pdf (n:Nat) (A:Mx Rat):Prop:=∀ x:Nat→Rat,(∃ j,j < n∧x j≠0)→0 < bl n A x x
theorem Qaf {n:Nat} {A P:Mx Rat} (hp:∀ i,i < n→0 < bl n A (P i) (P i)) (ho:∀ i j,i < n→j < n→i≠j→bl n A (P i) (P j)=0):Pdf n A:=by
 intro x ⟨j0,hj0,hx0⟩
 obtain ⟨y,⟨t,ht,hyt⟩,hy⟩:=kernel_ne n (n+1) (fun j i=>if i < n then P i j else x j) (Nat.lt_succ_self n)
 have hy':∀ j,j < n→(sm n fun i=>y i*P i j)+y n*x j=0:=fun j hj=>by
  rw [← hy j hj,sm]
  show _=sm n _+(if n < n then P n j else x j)*y n
  rw [if_neg (Nat.lt_irrefl n),Rat.mul_comm (x j)]
  congr 1
  exact sm_congr fun i hi=>by show _=(if i < n then P i j else x j)*y i; rw [if_pos hi,Rat.mul_comm]
 have hq:bl n A (fun j=>sm n fun i=>y i*P i j) (fun j=>sm n fun i=>y i*P i j)=sm n fun i=>y i*y i*bl n A (P i) (P i):=by
  rw [VJ (T:=P) (r:=n) (c:=y) fun _ _=>rfl]
  refine sm_congr fun i hi=>?_
  rw [jw (T:=P) (r:=n) (c:=y) fun _ _=>rfl,sm_one i hi fun s hs hne=>by rw [ho i s hi hs (Ne.symm hne),Rat.mul_zero],Rat.mul_assoc]
 have hx:bl n A (fun j=>sm n fun i=>y i*P i j) (fun j=>sm n fun i=>y i*P i j)=y n*y n*bl n A x x:=by
  have e:∀ j,j < n→(sm n fun i=>y i*P i j)=sm 1 fun k => -(y n)*(fun _=>x) k j:=fun j hj=>by
   have:=hy' j hj
   show _=0 + -(y n)*x j
   grind
  rw [VJ (T:=fun _=>x) (r:=1) (c:=fun _ => -(y n)) e]
  show 0 + -(y n)*_=_
  rw [jw (T:=fun _=>x) (r:=1) (c:=fun _ => -(y n)) e]
  show 0 + -(y n)*(0 + -(y n)*_)=_
  grind
 have hne:∃ i,i < n∧y i≠0:=by
  apply Classical.byContradiction
  intro h
  have h0:∀ i,i < n→y i=0:=fun i hi=>Classical.byContradiction fun e=>h ⟨i,hi,e⟩
  have hyn:y n≠0:=by
   by_cases e:t=n
   ·subst e; exact hyt
   ·exact absurd (h0 t (by omega)) hyt
  have:=hy' j0 hj0
  rw [sm_zero fun i hi=>by rw [h0 i hi,Rat.zero_mul],Rat.zero_add] at this
  rcases mul_eq_zero this with e | e
  ·exact hyn e
  ·exact hx0 e
 obtain ⟨s,hs,hys⟩:=hne
 have hpos:0 < sm n fun i=>y i*y i*bl n A (P i) (P i):=QcB (fun i hi=>Rat.mul_nonneg (sq_nonneg _) (Rat.le_of_lt (hp i hi))) hs (Rat.mul_pos (sq_pos hys) (hp s hs))
 rw [← hq,hx] at hpos
 apply Classical.byContradiction
 intro hn
 have:=Rat.mul_le_mul_of_nonneg_left (c:=y n*y n) (Rat.not_lt.1 hn) (sq_nonneg _)
 rw [Rat.mul_zero] at this
 exact absurd hpos (Rat.not_lt.2 this)
theorem QcV {n:Nat} {A:Mx Rat} (hA:∀ i j,i < n→j < n→A i j=A j i) (h:Pdf n A):∀ k,k≤n→(∃ P,Gs n A k P∧∀ t,t < k→0 < bl n A (P t) (P t))∧0 < det k A:=by
 intro k hk
 have main:∃ P,Gs n A k P∧∀ t,t < k→0 < bl n A (P t) (P t):=by
  induction k with
  | zero=>exact ⟨A,Gs.zero,fun t h=>absurd h (Nat.not_lt_zero t)⟩
  | succ k ih =>
   obtain ⟨P,h1,h2⟩:=ih (by omega)
   obtain ⟨P',h3,h4⟩:=h1.next hA (by omega) fun t ht e=>by have:=h2 t ht; rw [e] at this; exact absurd this (by decide)
   refine ⟨P',h3,fun t ht=>?_⟩
   exact h _ ⟨t,by omega,by rw [h3.one t ht]; decide⟩
 refine ⟨main,?_⟩
 obtain ⟨P,h1,h2⟩:=main
 rw [h1.det hk]
 exact Qdb h2
theorem minors_pdf {n:Nat} {A:Mx Rat} (hA:∀ i j,i < n→j < n→A i j=A j i) (hd:∀ k,1≤k→k≤n→0 < det k A):Pdf n A:=by
 obtain ⟨P,h1,h2⟩:=Qfw hA hd n (Nat.le_refl n)
 exact Qaf h2 h1.ort
theorem sig_pdf {n p m w:Nat} {A P N W:Mx Rat} (hA:∀ i j,i < n→j < n→A i j=A j i) (h:Sig n p m w A P N W):p=n↔∀ k,1≤k→k≤n→0 < det k A:=by
 constructor
 ·intro e k _ hk
  subst e
  exact (QcV hA (Qaf h.pp h.po) k hk).2
 ·intro hd
  obtain ⟨Q,h1,h2⟩:=Qfw hA hd n (Nat.le_refl n)
  have h3:Sig n n 0 0 A Q Q Q:=⟨h2,fun _ h=>absurd h (Nat.not_lt_zero _),h1.ort,fun _ _ h=>absurd h (Nat.not_lt_zero _),fun _ _ h=>absurd h (Nat.not_lt_zero _),fun _ _ _ h=>absurd h (Nat.not_lt_zero _),fun _ _ h=>absurd h (Nat.not_lt_zero _),fun _ _ h=>absurd h (Nat.not_lt_zero _),fun x=>?_⟩
  ·exact (h.unique hA h3).1
  ·have hdu:La.det n Q≠0:=by
    rw [Bz.det_uni (a:=(idm:Mx Rat)) fun i hi=>h1.uni i hi,qH]; decide
   obtain ⟨r,R,q,d,hR⟩:=red_ex n Q
   rcases Nat.lt_or_eq_of_le hR.le with h4 | h4
   ·exact absurd ((hR.rop rfl).det0 (r:=n - 1) (by omega) fun j hj=>hR.zero (n - 1) j (by omega) (by omega) hj) hdu
   ·subst h4
    have h5:Sp r r (idm:Mx Rat) x:=QfY x
    have h6:Sp r r R x:=h5.congr (fun i j hi hj=>(hR.ech.full.2 i j hi hj).symm) fun _ _=>rfl
    have h7:=hR.span.sp.1 h6
    exact h7.congr (fun i j hi _=>by unfold stack; rw [if_pos hi]) fun _ _=>rfl
end Go.La

/- The bound of a determinant of integers. No condition. -/
namespace Go.La
def pz:Nat→(Nat→Int)→Int
 | 0,_=>1
 | n+1,f=>pz n f*f n
theorem pz_q:∀ (n:Nat) (f:Nat→Int),((pz n f:Int):Rat)=pd n fun i=>(f i:Rat)
 | 0,_=>rfl
 | n+1,f=>by show ((pz n f*f n:Int):Rat)=_; rw [Rat.intCast_mul,pz_q n f]; rfl
theorem Qgo {x y:Int} (hy:0≤y) (h:x*x≤y*y) : -y≤x∧x≤y:=by
 constructor
 ·rcases Int.lt_or_le x (-y) with h1 | h1
  ·have:=Int.mul_le_mul (show y+1 ≤ -x by omega) (show y+1 ≤ -x by omega) (by omega) (by omega)
   rw [Int.neg_mul_neg,Int.add_mul,Int.mul_add,Int.one_mul,Int.mul_one] at this
   omega
  ·exact h1
 ·rcases Int.lt_or_le y x with h1 | h1
  ·have:=Int.mul_le_mul (show y+1≤x by omega) (show y+1≤x by omega) (by omega) (by omega)
   rw [Int.add_mul,Int.mul_add,Int.one_mul,Int.mul_one] at this
   omega
  ·exact h1
theorem QeU {n:Nat} {A:Mx Int} {r:Nat→Int} (hr:∀ i,i < n→0≤r i∧Lr.sm n (fun j=>A i j*A i j)≤r i*r i) : -(pz n r)≤Lr.det n A∧Lr.det n A≤pz n r:=by
 have hp:0≤pz n r:=by
  have:∀ m,m≤n→0≤pz m r:=fun m=>by
   induction m with
   | zero=>exact fun _=>by show (0:Int)≤1; decide
   | succ m ih=>exact fun hm=>Int.mul_nonneg (ih (by omega)) (hr m (by omega)).1
  exact this n (Nat.le_refl n)
 refine Qgo hp ?_
 have h1:=Fq.hom_q.det n A
 rw [Lr.det_la] at h1
 have h2:=hadamard n fun i j=>((A i j:Int):Rat)
 have h3:(pd n fun i=>ip n (fun j=>((A i j:Int):Rat)) fun j=>((A i j:Int):Rat))≤pd n fun i=>((r i*r i:Int):Rat):=QgB fun i hi=>by
  refine ⟨Qbg _ _,?_⟩
  have e:ip n (fun j=>((A i j:Int):Rat)) (fun j=>((A i j:Int):Rat))=((Lr.sm n (fun j=>A i j*A i j):Int):Rat):=by
   rw [Fq.hom_q.sm,Lr.sm_la]
   exact sm_congr fun j _=>(Rat.intCast_mul _ _).symm
  rw [e]
  exact Rat.intCast_le_intCast.2 (hr i hi).2
 have h4:(pd n fun i=>((r i*r i:Int):Rat))=((pz n r*pz n r:Int):Rat):=by
  rw [Rat.intCast_mul,pz_q,← QgN]
  exact vJ fun i _=>Rat.intCast_mul _ _
 have h5:((Lr.det n A*Lr.det n A:Int):Rat)≤((pz n r*pz n r:Int):Rat):=by
  rw [Rat.intCast_mul,← h4]
  have h1':((Lr.det n A:Int):Rat)=La.det n fun i j=>((A i j:Int):Rat):=h1
  rw [h1']
  exact Rat.le_trans h2 h3
 exact Rat.intCast_le_intCast.1 h5
end Go.La

/- The vectors of a box in lexicographic order. No condition. -/
namespace Go.Bx
def vol (b:Nat→Nat) (n:Nat):Nat→Nat
 | 0=>1
 | k+1=>(2*b (n - (k+1))+1)*vol b n k
def str (b:Nat→Nat) (n i:Nat):Nat:=vol b n (n - (i+1))
def all (b:Nat→Nat) (n:Nat):Nat:=vol b n n
theorem vol_pos (b:Nat→Nat) (n:Nat):∀ k,0 < vol b n k
 | 0=>Nat.one_pos
 | k+1=>Nat.mul_pos (by omega) (vol_pos b n k)
theorem Qhf {b:Nat→Nat} {n i:Nat} (h:n=i+1):str b n i=1:=by subst h; unfold str; rw [Nat.sub_self]; rfl
theorem QgK {b:Nat→Nat} {n i:Nat} (h:i+1 < n):str b n i=(2*b (i+1)+1)*str b n (i+1):=by
 unfold str
 rw [show n - (i+1)=n - (i+1+1)+1 by omega,vol,show n - (n - (i+1+1)+1)=i+1 by omega]
theorem Qgk {b:Nat→Nat} {n:Nat} (h:0 < n):all b n=(2*b 0+1)*str b n 0:=by
 unfold all str
 obtain ⟨m,rfl⟩:∃ m,n=m+1:=⟨n - 1,by omega⟩
 show (2*b (m+1 - (m+1))+1)*vol b (m+1) m=_
 rw [Nat.sub_self,show m+1 - (0+1)=m by omega]
def dig (b:Nat→Nat) (n k i:Nat):Nat:=(k / str b n i) % (2*b i+1)
def vec (b:Nat→Nat) (n k i:Nat):Int:=(dig b n k i:Int) - b i
theorem Qfd (b:Nat→Nat) (n k i:Nat):dig b n k i≤2*b i:=by
 have:=Nat.mod_lt (k / str b n i) (show 0 < 2*b i+1 by omega)
 unfold dig
 omega
theorem vec_le (b:Nat→Nat) (n k i:Nat) : -(b i:Int)≤vec b n k i∧vec b n k i≤b i:=by
 have:=Qfd b n k i
 unfold vec
 omega
theorem Qfc {k s w:Nat} (hw:0 < w):(k+1) / (w*s)=k / (w*s)+(if (k+1) / s=k / s+1∧(k / s) % w=w - 1 then 1 else 0):=by
 rw [Nat.mul_comm w s,← Nat.div_div_eq_div_mul,← Nat.div_div_eq_div_mul]
 have h1:(k+1) / s=k / s∨(k+1) / s=k / s+1:=by
  have:=Nat.succ_div (a:=k) (b:=s)
  rw [this]
  split
  ·exact .inr rfl
  ·exact .inl rfl
 rcases h1 with h1 | h1
 ·rw [h1,if_neg (by omega),Nat.add_zero]
 ·rw [h1]
  generalize k / s=q
  have h2:=Nat.succ_div (a:=q) (b:=w)
  rw [h2]
  by_cases e:w ∣ q+1
  ·have hq:q % w=w - 1:=by
    obtain ⟨t,ht⟩:=e
    have ht0:0 < t:=by
     rcases Nat.eq_zero_or_pos t with h | h
     ·subst h; omega
     ·exact h
    obtain ⟨t',rfl⟩:∃ t',t=t'+1:=⟨t - 1,by omega⟩
    rw [Nat.mul_add,Nat.mul_one] at ht
    have:q=(w - 1)+w*t':=by omega
    rw [this,Nat.add_mul_mod_self_left,Nat.mod_eq_of_lt (by omega)]
   rw [if_pos e,if_pos ⟨rfl,hq⟩]
  ·rw [if_neg e,if_neg]
   rintro ⟨-,h3⟩
   apply e
   refine ⟨q / w+1,?_⟩
   have:=Nat.div_add_mod q w
   rw [Nat.mul_add,Nat.mul_one]
   omega
def Full (b:Nat→Nat) (n k i:Nat):Prop:=∀ j,i < j→j < n→dig b n k j=2*b j
theorem qi {b:Nat→Nat} {n:Nat} (k:Nat):∀ (d i:Nat),i+d+1=n→(Full b n k i→(k+1) / str b n i=k / str b n i+1)∧(¬ Full b n k i→(k+1) / str b n i=k / str b n i)
 | 0,i,h=>by
  rw [Qhf (by omega),Nat.div_one,Nat.div_one]
  exact ⟨fun _=>rfl,fun h1=>absurd (fun j h2 h3=>by omega) h1⟩
 | d+1,i,h=>by
  have ih:=qi (b:=b) (n:=n) k d (i+1) (by omega)
  rw [QgK (by omega),Qfc (by omega)]
  refine ⟨fun e=>?_,fun e=>?_⟩
  ·rw [if_pos ⟨ih.1 fun j h1 h2=>e j (by omega) h2,by rw [show 2*b (i+1)+1 - 1=2*b (i+1) by omega]; exact e (i+1) (by omega) (by omega)⟩]
  ·rw [if_neg,Nat.add_zero]
   rintro ⟨h1,h2⟩
   apply e
   intro j h3 h4
   by_cases e2:j=i+1
   ·subst e2
    rw [show 2*b (i+1)+1 - 1=2*b (i+1) by omega] at h2
    exact h2
   ·by_cases e3:Full b n k (i+1)
    ·exact e3 j (by omega) h4
    ·rw [ih.2 e3] at h1; omega
theorem QfF {b:Nat→Nat} {n k i:Nat} (hi:i < n) (hm:∀ j,i < j→j < n→dig b n k j=2*b j) (h0:dig b n k i≠2*b i) :
  (∀ j,j < i→dig b n (k+1) j=dig b n k j)∧dig b n (k+1) i=dig b n k i+1∧∀ j,i < j→j < n→dig b n (k+1) j=0:=by
 refine ⟨fun j hj=>?_,?_,fun j h1 h2=>?_⟩
 ·have:=qi (b:=b) (n:=n) k (n - (j+1)) j (by omega)
  unfold dig
  rw [this.2 fun h=>h0 (h i hj hi)]
 ·have:=qi (b:=b) (n:=n) k (n - (i+1)) i (by omega)
  unfold dig
  rw [this.1 hm]
  have h1:=Qfd b n k i
  have h2:dig b n k i < 2*b i:=by omega
  unfold dig at h2
  rw [Nat.add_mod,Nat.mod_eq_of_lt (a:=1) (by omega),Nat.mod_eq_of_lt]
  omega
 ·have:=qi (b:=b) (n:=n) k (n - (j+1)) j (by omega)
  unfold dig
  rw [this.1 fun a h3 h4=>hm a (by omega) h4]
  have h3:=hm j h1 h2
  unfold dig at h3
  rw [Nat.add_mod,h3]
  by_cases e:b j=0
  ·rw [e]
  ·rw [Nat.mod_eq_of_lt (a:=1) (by omega),Nat.mod_self]
theorem vec_next {b:Nat→Nat} {n k i:Nat} (hi:i < n) (hm:∀ j,i < j→j < n→vec b n k j=b j) (h0:vec b n k i≠b i) :
  (∀ j,j < i→vec b n (k+1) j=vec b n k j)∧vec b n (k+1) i=vec b n k i+1∧∀ j,i < j→j < n→vec b n (k+1) j = -(b j:Int):=by
 have hF:Full b n k i:=fun j h1 h2=>by have:=hm j h1 h2; unfold vec at this; omega
 obtain ⟨h1,h2,h3⟩:=QfF hi hF (fun e=>h0 (by unfold vec; omega))
 refine ⟨fun j hj=>by unfold vec; rw [h1 j hj],by unfold vec; rw [h2]; omega,fun j h4 h5=>by unfold vec; rw [h3 j h4 h5]; omega⟩
theorem vec_zero (b:Nat→Nat) (n i:Nat):vec b n 0 i = -(b i:Int):=by
 unfold vec dig
 rw [Nat.zero_div,Nat.zero_mod]; omega
theorem vec_last {b:Nat→Nat} {n k:Nat} (hk:k < all b n):(∀ j,j < n→vec b n k j=b j)↔k+1=all b n:=by
 have key:(∀ j,j < n→vec b n k j=b j)↔∀ j,j < n→dig b n k j=2*b j:=by
  constructor
  ·intro h j hj; have:=h j hj; unfold vec at this; omega
  ·intro h j hj; unfold vec; rw [h j hj]; omega
 rw [key]
 by_cases hn:n=0
 ·subst hn
  have:all b 0=1:=rfl
  exact ⟨fun _=>by omega,fun _ j h=>by omega⟩
 ·have h1:=qi (b:=b) (n:=n) k (n - 1) 0 (by omega)
  have hs:0 < str b n 0:=vol_pos _ _ _
  have h2:=Qgk (b:=b) (n:=n) (by omega)
  have hlt:k / str b n 0 < 2*b 0+1:=(Nat.div_lt_iff_lt_mul hs).2 (by rw [← h2]; exact hk)
  constructor
  ·intro h
   have h1:=h1.1 fun j h3 h4=>h j h4
   have h3:=h 0 (by omega)
   unfold dig at h3
   rw [Nat.mod_eq_of_lt hlt] at h3
   rw [h3] at h1
   have h4:=(Nat.le_div_iff_mul_le hs).1 (Nat.le_of_eq h1.symm)
   omega
  ·intro h
   rw [h,h2,Nat.mul_div_cancel _ hs] at h1
   by_cases e:Full b n k 0
   ·have h1:=h1.1 e
    intro j hj
    by_cases e0:j=0
    ·subst e0
     unfold dig
     rw [Nat.mod_eq_of_lt hlt]; omega
    ·exact e j (by omega) hj
   ·have h1:=h1.2 e
    omega
end Go.Bx

/- Boxes: the reverse order, boxes side by side, counts. No condition. -/
namespace Go.Bx
def cnt:Nat→(Nat→Bool)→Nat
 | 0,_=>0
 | n+1,f=>cnt n f+if f n then 1 else 0
theorem cnt_congr:∀ {n:Nat} {f g:Nat→Bool},(∀ k,k < n→f k=g k)→cnt n f=cnt n g
 | 0,_,_,_=>rfl
 | n+1,f,g,h=>by show cnt n f+_=cnt n g+_; rw [cnt_congr fun k hk=>h k (by omega),h n (by omega)]
theorem jt:∀ {n:Nat} {f:Nat→Bool},(∀ k,k < n→f k=false)→cnt n f=0
 | 0,_,_=>rfl
 | n+1,f,h=>by show cnt n f+_=0; rw [jt fun k hk=>h k (by omega),h n (by omega)]; rfl
end Go.Bx

/- Boxes hold all vectors of small value; vectors and their numbers. No condition. -/
namespace Go.Bx
open Go.La (bl bl_symm QL JY Qdl idm Pdf)
theorem cauchy {n:Nat} {A:La.Mx Rat} (hA:∀ i j,i < n→j < n→A i j=A j i) (h:∀ x,0≤bl n A x x) (x y:Nat→Rat):bl n A x y*bl n A x y≤bl n A x x*bl n A y y:=by
 have key:∀ s t:Rat,0≤s*s*bl n A x x+2*(s*t)*bl n A x y+t*t*bl n A y y:=fun s t=>by
  have h1:=h (fun j=>s*x j+t*y j)
  have e0:∀ z,bl n A (fun j=>s*x j+t*y j) z=s*bl n A x z+t*bl n A y z:=fun z=>by
   rw [QL]
   congr 1
   have:=QL (n:=n) (A:=A) (u:=fun _=>0) (v:=x) (y:=z) s
   have e1:bl n A (fun _=>(0:Rat)) z=0:=La.sm_zero fun j _=>by rw [La.sm_zero fun i _=>Rat.zero_mul _,Rat.zero_mul]
   rw [e1,Rat.zero_add] at this
   rw [← this]
   exact La.bl_congr (fun _ _ _ _=>rfl) (fun j _=>(Rat.zero_add _).symm) fun _ _=>rfl
  rw [e0,bl_symm hA x,bl_symm hA y (fun j=>s*x j+t*y j),e0,e0,bl_symm hA y x] at h1
  grind
 by_cases e:bl n A y y=0
 ·have k1:=key 1 (-(bl n A x x+1)*bl n A x y)
  rw [e] at k1 ⊢
  have hx:=h x
  have hs:=La.sq_nonneg (bl n A x y)
  have hp:0≤(bl n A x x)*(bl n A x y*bl n A x y):=Rat.mul_nonneg hx hs
  by_cases e2:bl n A x y=0
  ·rw [e2]; grind
  ·have hq:=La.sq_pos e2
   have k2:=key (bl n A x y) (-(bl n A x x+1))
   rw [e] at k2
   grind
 ·have hy:0 < bl n A y y:=by have:=h y; grind
  have k1:=key (bl n A y y) (-(bl n A x y))
  have k2:0≤bl n A y y*(bl n A x x*bl n A y y - bl n A x y*bl n A x y):=by grind
  apply Classical.byContradiction
  intro hn
  have h3:0 < bl n A x y*bl n A x y - bl n A x x*bl n A y y:=by
   have:=Rat.not_le.1 hn
   grind
  have:=Rat.mul_pos hy h3
  grind
theorem pdf_nonneg {n:Nat} {A:La.Mx Rat} (h:Pdf n A) (x:Nat→Rat):0≤bl n A x x:=by
 by_cases e:∃ j,j < n∧x j≠0
 ·exact Rat.le_of_lt (h x e)
 ·have h0:∀ j,j < n→x j=0:=fun j hj=>Classical.byContradiction fun e2=>e ⟨j,hj,e2⟩
  have:bl n A x x=0:=La.sm_zero fun j hj=>by rw [h0 j hj,Rat.mul_zero]
  rw [this]; exact Rat.le_refl
theorem coord {n:Nat} {A B:La.Mx Rat} (hA:∀ i j,i < n→j < n→A i j=A j i) (h:Pdf n A) (hB:∀ i j,i < n→j < n→La.mm n A B i j=idm i j) {i:Nat} (hi:i < n) (x:Nat→Rat):x i*x i≤bl n A x x*B i i:=by
 have h1:=cauchy hA (pdf_nonneg h) x (fun j=>B j i)
 have e1:bl n A x (fun j=>B j i)=x i:=by
  have:bl n A x (fun j=>B j i)=La.sm n fun k=>x k*La.mm n A B k i:=by
   unfold bl La.mm
   rw [La.sm_congr (f:=fun j=>(La.sm n fun k=>x k*A k j)*B j i) (g:=fun j=>La.sm n fun k=>x k*(A k j*B j i)) fun j _=>by
    rw [← La.sm_mul']; exact La.sm_congr fun k _=>Rat.mul_assoc _ _ _,La.sm_comm]
   exact La.sm_congr fun k _=>La.sm_mul _ _ _
  rw [this,La.sm_one i hi fun k hk hne=>by rw [hB k i hk hi,show (idm k i:Rat)=0 from if_neg hne,Rat.mul_zero],hB i i hi hi,show (idm i i:Rat)=1 from if_pos rfl,Rat.mul_one]
 have e2:bl n A (fun j=>B j i) (fun j=>B j i)=B i i:=by
  unfold bl
  have:∀ j,j < n→(La.sm n fun k=>B k i*A k j)=idm j i:=fun j hj=>by
   rw [← hB j i hj hi]
   exact La.sm_congr fun k hk=>by rw [Rat.mul_comm,hA k j hk hj]
  rw [La.sm_congr fun j hj=>by rw [this j hj],La.sm_one i hi fun k hk hne=>by rw [show (idm k i:Rat)=0 from if_neg hne,Rat.zero_mul],show (idm i i:Rat)=1 from if_pos rfl,Rat.one_mul]
 rw [e1,e2] at h1
 exact h1
end Go.Bx

/- The inverse of a matrix of integers by its adjugate: sizes, signs. No condition. -/
namespace Go.La
theorem mm_asc {n:Nat} (X A Y:Mx Rat) (i j:Nat):mm n (mm n X A) Y i j=mm n X (mm n A Y) i j:=by
 unfold mm
 rw [sm_congr (f:=fun k=>(sm n fun l=>X i l*A l k)*Y k j) (g:=fun k=>sm n fun l=>X i l*(A l k*Y k j)) fun k _=>by
  rw [← sm_mul']; exact sm_congr fun l _=>Rat.mul_assoc _ _ _,sm_comm]
 exact sm_congr fun l _=>sm_mul _ _ _
theorem adj_rt {n:Nat} {A:Mx Int} {l k:Nat} (hl:l < n) (hk:k < n):(sm n fun j=>((A l j:Int):Rat)*((Lr.adj n A j k:Int):Rat))=if l=k then ((Lr.det n A:Int):Rat) else 0:=by
 have h:=congrArg (fun z:Int=>(z:Rat)) (Lr.mul_adj (M:=A) hl hk)
 have e:((Lr.sm n (fun j=>A l j*Lr.adj n A j k):Int):Rat)=sm n fun j=>((A l j:Int):Rat)*((Lr.adj n A j k:Int):Rat):=by
  rw [Fq.hom_q.sm,Lr.sm_la]
  exact sm_congr fun j _=>Rat.intCast_mul _ _
 rw [← e]
 refine h.trans ?_
 show (((if l=k then Lr.det n A else 0:Int)):Rat)=_
 split<;>rfl
theorem inv_adj {n:Nat} {A:Mx Int} {X:Mx Rat} (hX:∀ i j,i < n→j < n→mm n X (fun i j=>((A i j:Int):Rat)) i j=idm i j) {i k:Nat} (hi:i < n) (hk:k < n) :
  ((Lr.det n A:Int):Rat)*X i k=((Lr.adj n A i k:Int):Rat):=by
 have h1:mm n X (mm n (fun i j=>((A i j:Int):Rat)) fun i j=>((Lr.adj n A i j:Int):Rat)) i k=X i k*((Lr.det n A:Int):Rat):=by
  show (sm n fun l=>X i l*sm n fun j=>((A l j:Int):Rat)*((Lr.adj n A j k:Int):Rat))=_
  rw [sm_one k hk fun l hl hne=>by rw [adj_rt hl hk,if_neg hne,Rat.mul_zero],adj_rt hk hk,if_pos rfl]
 rw [Rat.mul_comm,← h1,← mm_asc]
 show (sm n fun j=>mm n X (fun i j=>((A i j:Int):Rat)) i j*((Lr.adj n A j k:Int):Rat))=_
 rw [sm_one i hi fun j hj hne=>by rw [hX i j hi hj,show (idm i j:Rat)=0 from if_neg (Ne.symm hne),Rat.zero_mul],hX i i hi hi,show (idm i i:Rat)=1 from if_pos rfl,Rat.one_mul]
theorem inv_rt {n:Nat} {A:Mx Int} {X:Mx Rat} (hX:∀ i j,i < n→j < n→mm n X (fun i j=>((A i j:Int):Rat)) i j=idm i j) (hd:Lr.det n A≠0) {i k:Nat} (hi:i < n) (hk:k < n) :
  mm n (fun i j=>((A i j:Int):Rat)) X i k=idm i k:=by
 have hd0:((Lr.det n A:Int):Rat)≠0:=fun e=>hd (Rat.intCast_inj.1 (e.trans (show (0:Rat)=((0:Int):Rat) from rfl)))
 have h1:((Lr.det n A:Int):Rat)*mm n (fun i j=>((A i j:Int):Rat)) X i k=((Lr.det n A:Int):Rat)*idm i k:=by
  show _*(sm n fun j=>((A i j:Int):Rat)*X j k)=_
  rw [← sm_mul,sm_congr (g:=fun j=>((A i j:Int):Rat)*((Lr.adj n A j k:Int):Rat)) fun j hj=>by rw [← Rat.mul_assoc,Rat.mul_comm ((Lr.det n A:Int):Rat),Rat.mul_assoc,inv_adj hX hj hk],adj_rt hi hk]
  show _=_*(if i=k then (1:Rat) else 0)
  split
  ·rw [Rat.mul_one]
  ·rw [Rat.mul_zero]
 have:=congrArg (fun q=>((Lr.det n A:Int):Rat)⁻¹*q) h1
 simpa only [← Rat.mul_assoc,Rat.inv_mul_cancel _ hd0,Rat.one_mul] using this
theorem Qgs {c:Int}:∀ {n:Nat} {f:Nat→Int},(∀ j,j < n→f j≤c)→Lr.sm n f≤n*c
 | 0,_,_=>by show (0:Int)≤0*c; omega
 | n+1,f,h=>by
  have h1:=Qgs (n:=n) (f:=f) fun j hj=>h j (by omega)
  have h2:=h n (by omega)
  show Lr.sm n f+f n≤((n+1:Nat):Int)*c
  rw [Int.natCast_add,Int.add_mul]
  omega
theorem det_bd {n:Nat} {A:Mx Int} (hn:n≤8) (hb:∀ i j,i < n→j < n → -1000≤A i j∧A i j≤1000):(Lr.det n A).natAbs≤3000 ^ 8:=by
 have h:=QeU (A:=A) (r:=fun _=>3000) (n:=n) fun i hi=>⟨by decide,by
  have:=Qgs (c:=1000000) (n:=n) (f:=fun j=>A i j*A i j) fun j hj=>by
   obtain ⟨h1,h2⟩:=hb i j hi hj
   have:(1000 - A i j)*(1000+A i j) ≥ 0:=Int.mul_nonneg (by omega) (by omega)
   rw [Int.sub_mul,Int.mul_add,Int.mul_add,Int.mul_comm (A i j) 1000] at this
   omega
  omega⟩
 have hp:pz n (fun _=>3000)≤3000 ^ 8:=by
  have:n=0∨n=1∨n=2∨n=3∨n=4∨n=5∨n=6∨n=7∨n=8:=by omega
  rcases this with rfl | rfl | rfl | rfl | rfl | rfl | rfl | rfl | rfl<;>decide
 have e:((3000:Int) ^ 8)=((3000 ^ 8:Nat):Int):=by decide
 omega
theorem adj_bd {n:Nat} {A:Mx Int} {i k:Nat} (hn:n≤8) (hb:∀ i j,i < n→j < n → -1000≤A i j∧A i j≤1000):(Lr.adj n A i k).natAbs≤3000 ^ 8:=by
 refine det_bd hn fun a b ha hb'=>?_
 by_cases e:a=k
 ·subst e
  rw [Qq]
  show -1000≤(if i=b then (1:Int) else 0)∧(if i=b then (1:Int) else 0)≤1000
  split<;>omega
 ·rw [setr_ne _ _ e]
  exact hb a b ha hb'
theorem pos_diag {n:Nat} {A B:Mx Rat} (hA:∀ i j,i < n→j < n→A i j=A j i) (h:Pdf n A) (hB:∀ i j,i < n→j < n→mm n A B i j=idm i j) {i:Nat} (hi:i < n):0 < B i i:=by
 have h1:=Bx.coord hA h hB hi (idm i)
 have h2:=h (idm i) ⟨i,hi,by show (if i=i then (1:Rat) else 0)≠0; rw [if_pos rfl]; decide⟩
 rw [show (idm i i:Rat)=1 from if_pos rfl,Rat.mul_one] at h1
 refine Rat.not_le.1 fun h3=>?_
 have h4:bl n A (idm i) (idm i)*B i i≤0:=by
  have:=Rat.mul_le_mul_of_nonneg_left h3 (Rat.le_of_lt h2)
  rwa [Rat.mul_zero] at this
 exact absurd (Rat.le_trans h1 h4) (by decide)
end Go.La

/- Lists of the indices at which a condition holds; boxes' sizes. No condition. -/
namespace Go.Bx
def idx (p:Nat→Bool) (N:Nat):List Nat:=(List.range N).filter p
def szl (B:Nat) (b:Nat→Nat):Nat→Nat
 | 0=>1
 | i+1=>min (szl B b i*(2*min (b i) B+1)) (B+1)
def pre (b:Nat→Nat):Nat→Nat
 | 0=>1
 | i+1=>pre b i*(2*b i+1)
theorem pre_pos (b:Nat→Nat):∀ n,0 < pre b n
 | 0=>Nat.one_pos
 | n+1=>Nat.mul_pos (pre_pos b n) (by omega)
theorem pre_mono {b:Nat→Nat} {i:Nat}:∀ {n:Nat},i≤n→pre b i≤pre b n
 | 0,h=>by rw [Nat.le_zero.1 h]; exact Nat.le_refl _
 | n+1,h=>by
  rcases Nat.lt_or_eq_of_le h with h1 | h1
  ·exact Nat.le_trans (pre_mono (Nat.le_of_lt_succ h1)) (Nat.le_mul_of_pos_right _ (by omega))
  ·rw [h1]; exact Nat.le_refl _
theorem pre_vol {b:Nat→Nat}:∀ n,all b n=pre b n:=by
 intro n
 have key:∀ k,k≤n→pre b (n - k)*vol b n k=pre b n:=fun k=>by
  induction k with
  | zero=>exact fun _=>Nat.mul_one _
  | succ k ih =>
   intro hk
   rw [← ih (by omega)]
   show pre b (n - (k+1))*((2*b (n - (k+1))+1)*vol b n k)=_
   rw [← Nat.mul_assoc]
   congr 1
   rw [show n - k=n - (k+1)+1 by omega]
   rfl
 have:=key n (Nat.le_refl n)
 rw [Nat.sub_self] at this
 show vol b n n=_
 rw [← this]
 exact (Nat.one_mul _).symm
theorem szl_ok {B:Nat} {b:Nat→Nat}:∀ n,(pre b n≤B→szl B b n=pre b n)∧(B < pre b n→szl B b n=B+1∨B=0)
 | 0=>⟨fun _=>rfl,fun h => .inr (by have:B < 1:=h; omega)⟩
 | n+1=>by
  obtain ⟨h1,h2⟩:=szl_ok (B:=B) (b:=b) n
  have hp:=pre_pos b n
  constructor
  ·intro h
   have h3:pre b n≤B:=Nat.le_trans (pre_mono (Nat.le_succ n)) h
   have h4:pre b n*(2*b n+1)≤B:=h
   have h5:b n≤B:=by
    have:=Nat.mul_le_mul_right (2*b n+1) hp
    omega
   show min (szl B b n*(2*min (b n) B+1)) (B+1)=pre b n*(2*b n+1)
   rw [h1 h3,Nat.min_eq_left h5]
   omega
  ·intro h
   have h4:B < pre b n*(2*b n+1):=h
   show min (szl B b n*(2*min (b n) B+1)) (B+1)=B+1∨B=0
   rcases Nat.lt_or_ge B (pre b n) with h3 | h3
   ·rcases h2 h3 with h5 | h5
    ·left
     have h6:szl B b n≤szl B b n*(2*min (b n) B+1):=Nat.le_mul_of_pos_right _ (by omega)
     omega
    ·exact .inr h5
   ·rw [h1 h3]
    rcases Nat.lt_or_ge B (b n) with h5 | h5
    ·rw [Nat.min_eq_right (show B≤b n by omega)]
     have h6:=Nat.mul_le_mul_right (2*B+1) hp
     omega
    ·rw [Nat.min_eq_left h5]
     left
     omega
end Go.Bx

/- Integer square roots. No condition. -/
namespace Go.Bx
theorem Qes {a b n:Nat} (h1:a*a≤n) (h2:n < (a+1)*(a+1)) (h3:b*b≤n) (h4:n < (b+1)*(b+1)):a=b:=by
 rcases Nat.lt_trichotomy a b with h | h | h
 ·have:=Nat.mul_le_mul (show a+1≤b by omega) (show a+1≤b by omega)
  omega
 ·exact h
 ·have:=Nat.mul_le_mul (show b+1≤a by omega) (show b+1≤a by omega)
  omega
theorem Qbe:∀ A:Nat,∃ R:Nat,R*R≤A∧A < (R+1)*(R+1)
 | 0=>⟨0,by decide,by decide⟩
 | A+1=>by
  obtain ⟨R,h1,h2⟩:=Qbe A
  by_cases h:A+1 < (R+1)*(R+1)
  ·exact ⟨R,by omega,h⟩
  ·refine ⟨R+1,by omega,?_⟩
   have:(R+1+1)*(R+1+1)=(R+1)*(R+1)+(R+1)+(R+1)+1:=by simp only [Nat.add_mul,Nat.mul_add]; omega
   omega
noncomputable def isq (A:Nat):Nat:=Classical.choose (Qbe A)
theorem QfO (A:Nat):isq A*isq A≤A:=(Classical.choose_spec (Qbe A)).1
theorem Qis (A:Nat):A < (isq A+1)*(isq A+1):=(Classical.choose_spec (Qbe A)).2
theorem isq_at {A R:Nat} (h1:R*R≤A) (h2:A < (R+1)*(R+1)):R=isq A:=Qes h1 h2 (QfO A) (Qis A)
theorem isq_le {A:Nat}:isq A≤A:=by
 have h:=QfO A
 rcases Nat.eq_zero_or_pos (isq A) with h0 | h0
 ·omega
 ·exact Nat.le_trans (Nat.le_mul_of_pos_left _ h0) h
def dg (n i:Nat):Nat:=i / n+if i / n < i % n then 1 else 0
theorem dg_zero (n:Nat):dg n 0=0:=by unfold dg; rw [Nat.zero_div,Nat.zero_mod]; rfl
theorem dg_full {n:Nat} (h:0 < n):dg n (n*n)=n:=by unfold dg; rw [Nat.mul_div_cancel _ h,Nat.mul_mod_left,if_neg (by omega)]; rfl
theorem dg_next {n i:Nat} (h:0 < n) (hi:i < n*n):dg n (i+1)=if i / n=i % n then dg n i+1 else dg n i:=by
 have h1:=Nat.div_add_mod i n
 have h2:=Nat.mod_lt i h
 have h3:i / n < n:=(Nat.div_lt_iff_lt_mul h).2 hi
 unfold dg
 rcases Nat.lt_or_eq_of_le (show i % n+1≤n by omega) with e | e
 ·have e1:(i+1) % n=i % n+1:=by
   have e2:i+1=(i % n+1)+n*(i / n):=by omega
   rw [e2,Nat.add_mul_mod_self_left,Nat.mod_eq_of_lt e]
  have e2:(i+1) / n=i / n:=by
   have e2:i+1=(i % n+1)+n*(i / n):=by omega
   rw [e2,Nat.add_mul_div_left _ _ h,Nat.div_eq_of_lt e]; omega
  rw [e1,e2]
  by_cases a:i / n=i % n
  ·rw [if_pos a,if_pos (by omega),if_neg (by omega)]
  ·rw [if_neg a]
   by_cases a2:i / n < i % n
   ·rw [if_pos (by omega),if_pos a2]
   ·rw [if_neg (by omega),if_neg a2]
 ·have e2:i+1=n*(i / n+1):=by rw [Nat.mul_add]; omega
  have e3:(i+1) % n=0:=by rw [e2]; exact Nat.mul_mod_right ..
  have e4:(i+1) / n=i / n+1:=by rw [e2]; exact Nat.mul_div_cancel_left _ h
  rw [e3,e4,if_neg (Nat.not_lt_zero _)]
  by_cases a:i / n=i % n
  ·rw [if_pos a,if_neg (by omega)]
  ·rw [if_neg a,if_pos (by omega)]
theorem dg_diag {n i:Nat} (h:i / n=i % n):dg n i=i / n:=by unfold dg; rw [if_neg (by omega)]; rfl
end Go.Bx

/- Squares and squarefree numbers. No condition. -/
namespace Go.Fq
end Go.Fq

/- Levels and discriminants of even forms: denominators, squarefree parts. No condition. -/
namespace Go.Fq
def lv (d:Nat→Nat):Nat→Nat
 | 0=>1
 | j+1=>lv d j*(d j / Nat.gcd (lv d j) (d j))
end Go.Fq

/- The adjugate by minors. No condition. -/
namespace Go.Lr
open Go.La (Mx setr Qq setr_ne swap swap_at swap_ne skip skip_lt)
variable {K:Type} [Rg K]
def top (A:Mx K) (k:Nat):Mx K:=fun i=>if i=0 then A k else A (skip k (i - 1))
theorem Qdg {n:Nat}:∀ {k:Nat} {A:Mx K},k < n→det n (top A k)=sgn k*det n A
 | 0,A,_=>by
  rw [show (sgn 0:K)=1 from rfl,one_mul]
  congr 1
  funext i
  unfold top skip
  by_cases h:i=0
  ·rw [if_pos h,h]
  ·rw [if_neg h,if_neg (Nat.not_lt_zero _),show i - 1+1=i by omega]
 | k+1,A,hk=>by
  have e:top A (k+1)=top (swap A k (k+1)) k:=by
   funext i
   unfold top skip swap
   by_cases h:i=0
   ·rw [if_pos h,if_pos h,if_pos rfl]
   ·rw [if_neg h,if_neg h]
    rcases Nat.lt_trichotomy (i - 1) k with h1 | h1 | h1
    ·rw [if_pos (show i - 1 < k+1 by omega),if_pos h1,if_neg (show ¬ i - 1=k by omega),if_neg (show ¬ i - 1=k+1 by omega)]
    ·rw [if_pos (show i - 1 < k+1 by omega),if_neg (show ¬ i - 1 < k by omega),if_neg (show ¬ i - 1+1=k by omega),if_pos (show i - 1+1=k+1 by omega),h1]
    ·rw [if_neg (show ¬ i - 1 < k+1 by omega),if_neg (show ¬ i - 1 < k by omega),if_neg (show ¬ i - 1+1=k by omega),if_neg (show ¬ i - 1+1=k+1 by omega)]
  rw [e,Qdg (by omega),(det_alt n).swap (by omega) hk (by omega),mul_neg]
  show _ = -sgn k*det n A
  rw [neg_mul]
theorem Qfv:∀ k:Nat,(sgn k:K)*sgn k=1
 | 0=>one_mul 1
 | k+1=>by show -sgn k * -sgn k=(1:K); rw [neg_mul,mul_neg,Yy,Qfv k]
theorem adj_minor {m j k:Nat} {A:Mx K} (hj:j < m+1) (hk:k < m+1):adj (m+1) A j k=sgn k*(sgn j*det m (fun a b=>A (skip k a) (skip j b))):=by
 have h1:=Qdg (A:=setr A k (idm j)) hk
 have h2:det (m+1) (top (setr A k (idm j)) k)=sgn j*det m (fun a b=>A (skip k a) (skip j b)):=by
  show sm (m+1) (fun c=>sgn c*(top (setr A k (idm j)) k 0 c*det m (minor (top (setr A k (idm j)) k) c)))=_
  have e0:∀ c,top (setr A k (idm j)) k 0 c=idm j c:=fun c=>by
   show (if (0:Nat)=0 then setr A k (idm j) k else _) c=_
   rw [if_pos rfl,Qq]
  rw [sm_one j hj fun c _ hne=>by rw [e0,show (idm j c:K)=0 from if_neg (Ne.symm hne),zero_mul,mul_zero],e0,show (idm j j:K)=1 from if_pos rfl,one_mul]
  congr 2
  funext a b
  show top (setr A k (idm j)) k (a+1) (skip j b)=_
  unfold top
  rw [if_neg (by omega),Nat.add_sub_cancel,setr_ne _ _ (by unfold skip; split<;>omega)]
 show det (m+1) (setr A k (idm j))=_
 rw [← h2,h1,← mul_assoc,Qfv,one_mul]
theorem QaY:∀ k:Nat,(sgn k:Int)=if k % 2=1 then -1 else 1
 | 0=>rfl
 | k+1=>by
  show -(sgn k:Int)=_
  rw [QaY k]
  by_cases h:k % 2=1
  ·rw [if_pos h,if_neg (by omega)]; rfl
  ·rw [if_neg h,if_pos (by omega)]
theorem sgn_two (i k:Nat) (x:Int):(sgn k:Int)*(sgn i*x)=if (i+k) % 2=1 then -x else x:=by
 rw [QaY,QaY]
 by_cases h1:i % 2=1
 ·by_cases h2:k % 2=1
  ·rw [if_pos h1,if_pos h2,if_neg (by omega)]; omega
  ·rw [if_pos h1,if_neg h2,if_pos (by omega)]; omega
 ·by_cases h2:k % 2=1
  ·rw [if_neg h1,if_pos h2,if_pos (by omega)]; omega
  ·rw [if_neg h1,if_neg h2,if_neg (by omega)]; omega
end Go.Lr

/- Even forms: a change of basis. No condition. -/
namespace Go.Bx
open Go.La (Mx mm tr idm)
end Go.Bx

/- Sums of two and of four squares up to 30, counted in boxes. -/
namespace Go.Bx
def sq (x:Int):Nat:=x.natAbs*x.natAbs
def s2 (β k:Nat):Nat:=sq (vec (fun _=>β) 2 k 0)+sq (vec (fun _=>β) 2 k 1)
def s4 (β k:Nat):Nat:=sq (vec (fun _=>β) 4 k 0)+sq (vec (fun _=>β) 4 k 1)+(sq (vec (fun _=>β) 4 k 2)+sq (vec (fun _=>β) 4 k 3))
def chi (d:Nat):Int:=if d % 4=1 then 1 else if d % 4=3 then -1 else 0
def two (n:Nat):Nat→Int
 | 0=>0
 | d+1=>if n % (d+1)=0 then two n d+4*chi (d+1) else two n d
def four (n:Nat):Nat→Int
 | 0=>0
 | d+1=>if n % (d+1)=0∧(d+1) % 4≠0 then four n d+8*((d+1:Nat):Int) else four n d
def rt (n:Nat):Nat:=if n < 1 then 0 else if n < 4 then 1 else if n < 9 then 2 else if n < 16 then 3 else if n < 25 then 4 else 5
end Go.Bx
