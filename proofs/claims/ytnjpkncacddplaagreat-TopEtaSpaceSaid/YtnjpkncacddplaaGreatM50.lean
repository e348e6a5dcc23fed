/- Texts of this seat's own, merged: each begins with its own remark. -/
import Derived.Test.YtnjpkncacddplaaGreatM48
import Derived.Test.YtnjpkncacddplaaGreatM19
import Derived.Test.YtnjpkncacddplaaGreatM40
import Derived.Test.YtnjpkncacddplaaGreatM1
/- Determinants of integers without fractions (Bareiss). No condition. -/
namespace Go.Bz
open Go.La (Fld Mx setr Ql setr_ne swap swap_at swap_ne)
section
variable {K:Type} [Fld K]
theorem det_uni {n:Nat} {u a:Mx K} (h:∀ i,i < n→∃ c:Nat→K,∀ j,j < n→u i j=a i j+La.sm i fun t=>c t*u t j):La.det n u=La.det n a:=by
 have main:∀ s,s≤n→La.det n (fun i=>if i < s then u i else a i)=La.det n a:=by
  intro s
  induction s with
  | zero=>exact fun _=>La.det_congr fun i j _ _=>by rw [if_neg (Nat.not_lt_zero i)]
  | succ s ih =>
   intro hs
   rw [← ih (by omega)]
   obtain ⟨c,hc⟩:=h s (by omega)
   let M:Mx K:=fun i=>if i < s then u i else a i
   have hMs:M s=a s:=if_neg (Nat.lt_irrefl s)
   have key:∀ t,t≤s→La.det n (setr M s fun j=>a s j+La.sm t fun t=>c t*u t j)=La.det n M:=by
    intro t
    induction t with
    | zero =>
     intro _
     refine La.det_congr fun i j _ _=>?_
     by_cases e:i=s
     ·subst e; rw [Ql,hMs]; exact La.add_zero _
     ·rw [setr_ne _ _ e]
    | succ t iht =>
     intro ht
     rw [← iht (by omega),← (La.det_alt n).comb (p:=s) (q:=t) (by omega) (by omega) (by omega) (c t) (setr M s fun j=>a s j+La.sm t fun t=>c t*u t j)]
     refine La.det_congr fun i j _ _=>?_
     by_cases e:i=s
     ·subst e
      rw [Ql,Ql,Ql,setr_ne _ _ (by omega)]
      have:M t=u t:=if_pos (by omega)
      rw [this,La.add_assoc]; rfl
     ·rw [setr_ne _ _ e,setr_ne _ _ e,setr_ne _ _ e]
   rw [← show La.det n M=La.det n (fun i=>if i < s then u i else a i) from rfl,← key s (Nat.le_refl s)]
   refine La.det_congr fun i j _ hj=>?_
   by_cases e:i=s
   ·subst e
    rw [Ql,if_pos (Nat.lt_succ_self i)]
    exact hc j hj
   ·rw [setr_ne _ _ e]
    show (if i < s+1 then u i else a i) j=(if i < s then u i else a i) j
    by_cases e2:i < s
    ·rw [if_pos e2,if_pos (by omega)]
    ·rw [if_neg e2,if_neg (by omega)]
 rw [← main n (Nat.le_refl n)]
 exact La.det_congr fun i j hi _=>by rw [if_pos hi]
theorem QjG {m n:Nat} (h:m≤n) (c f:Nat→K):La.sm n (fun t=>(if t < m then c t else 0)*f t)=La.sm m fun t=>c t*f t:=by
 obtain ⟨d,rfl⟩:∃ d,n=m+d:=⟨n - m,by omega⟩
 rw [La.sm_app,La.sm_zero (n:=d) fun t _=>by rw [if_neg (by omega),La.zero_mul],La.add_zero]
 exact La.sm_congr fun t ht=>by rw [if_pos ht]
def dg (u:Mx K):Nat→K
 | 0=>1
 | k+1=>dg u k*u k k
theorem jF:∀ {n:Nat} {u:Mx K},(∀ i j,i < n→j < i→u i j=0)→La.det n u=dg u n
 | 0,_,_=>rfl
 | n+1,u,h=>by
  rw [← Lr.det_la,Lr.det_last fun j hj=>h n j (by omega) hj,Lr.det_la,jF fun i j hi hj=>h i j (by omega) hj]
  rfl
theorem je {u w:Mx K}:∀ {k:Nat},(∀ i,i < k→u i i=w i i)→dg u k=dg w k
 | 0,_=>rfl
 | k+1,h=>by show dg u k*u k k=dg w k*w k k; rw [je fun i hi=>h i (by omega),h k (by omega)]
end
structure Br (n:Nat) (A:Mx Int) (k:Nat) (A':Mx Int) (u:Mx Rat) (a:Mx Int) (last sign:Int):Prop where
 ne:dg u k≠0
 last:(last:Rat)=dg u k
 sg:La.det n (fun i j=>(A i j:Rat))=(sign:Rat)*La.det n (fun i j=>(A' i j:Rat))
 tri:∀ i j,i < n→j < i→j < k→u i j=0
 comb:∀ i,i < n→∃ c:Nat→Rat,∀ j,j < n→u i j=(A' i j:Rat)+La.sm (min i k) fun t=>c t*u t j
 val:∀ i j,k≤i→i < n→k≤j→j < n→(a i j:Rat)=dg u k*u i j
theorem Br.start {n:Nat} {A:Mx Int}:Br n A 0 A (fun i j=>(A i j:Rat)) A 1 1 where
 ne:=La.one_ne
 last:=rfl
 sg:=by rw [show ((1:Int):Rat)=1 from rfl,Rat.one_mul]
 tri i j _ _ h:=absurd h (Nat.not_lt_zero j)
 comb i _:=⟨fun _=>0,fun j _=>by rw [Nat.min_zero]; exact (Rat.add_zero _).symm⟩
 val i j _ _ _ _:=by show _=1*_; rw [Rat.one_mul]
theorem Br.swap {n k p:Nat} {A A' a:Mx Int} {u:Mx Rat} {last sign:Int} (h:Br n A k A' u a last sign) (hk:k < p) (hp:p < n):Br n A k (La.swap A' p k) (La.swap u p k) (La.swap a p k) last (-sign):=by
 have hu:∀ t,t < k→La.swap u p k t=u t:=fun t ht=>La.swap_ne (by omega) (by omega)
 have hdg:dg (La.swap u p k) k=dg u k:=je fun i hi=>by rw [hu i hi]
 refine ⟨by rw [hdg]; exact h.ne,by rw [hdg]; exact h.last,?_,fun i j hi hj hjk=>?_,fun i hi=>?_,fun i j h1 h2 h3 h4=>?_⟩
 ·rw [h.sg]
  have e:La.det n (fun i j=>((La.swap A' p k i j:Int):Rat)) = -La.det n (fun i j=>(A' i j:Rat)):=by
   rw [← (La.det_alt n).swap hp (show k < n by omega) (by omega)]
   refine La.det_congr fun i j _ _=>?_
   unfold La.swap
   split
   ·rfl
   ·split<;>rfl
  rw [e,Rat.intCast_neg]
  grind
 ·by_cases e1:i=p
  ·subst e1; rw [La.swap_at.1]; exact h.tri k j (by omega) (by omega) hjk
  ·by_cases e2:i=k
   ·subst e2; rw [La.swap_at.2]; exact h.tri p j hp (by omega) hjk
   ·rw [La.swap_ne e1 e2]; exact h.tri i j hi hj hjk
 ·have key:∀ b,b < n→min b k=min i k→La.swap u p k i=u b→La.swap A' p k i=A' b→∃ c:Nat→Rat,∀ j,j < n→La.swap u p k i j=((La.swap A' p k i j:Int):Rat)+La.sm (min i k) fun t=>c t*La.swap u p k t j:=fun b hb hm e1 e2=>by
   obtain ⟨c,hc⟩:=h.comb b hb
   refine ⟨c,fun j hj=>?_⟩
   rw [e1,e2,hc j hj,hm]
   congr 1
   exact La.sm_congr fun t ht=>by rw [hu t (by omega)]
  by_cases e1:i=p
  ·subst e1; exact key k (by omega) (by omega) La.swap_at.1 La.swap_at.1
  ·by_cases e2:i=k
   ·subst e2; exact key p hp (by omega) La.swap_at.2 La.swap_at.2
   ·exact key i hi rfl (La.swap_ne e1 e2) (La.swap_ne e1 e2)
 ·rw [hdg]
  by_cases e1:i=p
  ·subst e1; rw [La.swap_at.1,La.swap_at.1]; exact h.val k j (Nat.le_refl k) (by omega) h3 h4
  ·by_cases e2:i=k
   ·subst e2; rw [La.swap_at.2,La.swap_at.2]; exact h.val p j (by omega) hp h3 h4
   ·rw [La.swap_ne e1 e2,La.swap_ne e1 e2]; exact h.val i j h1 h2 h3 h4
theorem Br.step {n k:Nat} {A A' a:Mx Int} {u:Mx Rat} {last sign:Int} (h:Br n A k A' u a last sign) (hk:k < n) (h0:a k k≠0):∃ b:Mx Int,
  (∀ i j,k < i→i < n→k < j→j < n→a i j*a k k - a i k*a k j=b i j*last) ∧
   ∀ a':Mx Int,(∀ i j,k < i→i < n→k < j→j < n→a' i j=b i j)→Br n A (k+1) A' (fun i j=>if k < i then u i j - u i k / u k k*u k j else u i j) a' (a k k) sign:=by
 let w:Mx Rat:=fun i j=>if k < i then u i j - u i k / u k k*u k j else u i j
 have hw:∀ i,i≤k→w i=u i:=fun i hi=>funext fun j=>if_neg (by omega)
 have hwg:∀ i j,k < i→w i j=u i j - u i k / u k k*u k j:=fun i j hi=>if_pos hi
 have hkk:=h.val k k (Nat.le_refl k) hk (Nat.le_refl k) hk
 have hu0:u k k≠0:=fun e=>h0 (by
  rw [e,Rat.mul_zero] at hkk
  exact Rat.intCast_eq_zero_iff.1 hkk)
 have hdw:∀ t,t≤k+1→dg w t=dg u t:=fun t ht=>je fun i hi=>by rw [hw i (by omega)]
 have hdk:dg u (k+1)=dg u k*u k k:=rfl
 have hlast:(a k k:Rat)=dg w (k+1):=by rw [hdw _ (Nat.le_refl _),hdk]; exact hkk
 have htri:∀ i j,i < n→j < i→j < k+1→w i j=0:=fun i j hi hj hjk=>by
  by_cases e:k < i
  ·rw [hwg i j e]
   by_cases e2:j=k
   ·subst e2
    rw [Rat.div_mul_cancel hu0,Rat.sub_self]
   ·rw [h.tri i j hi hj (by omega),h.tri k j hk (by omega) (by omega),Rat.mul_zero,Rat.sub_self]
  ·rw [hw i (by omega)]; exact h.tri i j hi hj (by omega)
 have hcomb:∀ i,i < n→∃ c:Nat→Rat,∀ j,j < n→w i j=(A' i j:Rat)+La.sm (min i (k+1)) fun t=>c t*w t j:=fun i hi=>by
  obtain ⟨c,hc⟩:=h.comb i hi
  by_cases e:k < i
  ·refine ⟨fun t=>if t < k then c t else -(u i k / u k k),fun j hj=>?_⟩
   rw [hwg i j e,hc j hj,show min i (k+1)=k+1 by omega,show min i k=k by omega]
   show _=(A' i j:Rat)+((La.sm k fun t=>(if t < k then c t else -(u i k / u k k))*w t j)+(if k < k then c k else -(u i k / u k k))*w k j)
   rw [if_neg (Nat.lt_irrefl k),hw k (Nat.le_refl k),La.sm_congr (f:=fun t=>(if t < k then c t else -(u i k / u k k))*w t j) (g:=fun t=>c t*u t j) fun t ht=>by rw [if_pos ht,hw t (by omega)]]
   grind
  ·refine ⟨c,fun j hj=>?_⟩
   rw [hw i (by omega),hc j hj,show min i (k+1)=i by omega,show min i k=i by omega]
   congr 1
   exact La.sm_congr fun t ht=>by rw [hw t (by omega)]
 -- the bordered minors
 have hb:∀ i j,∃ z:Int,k < i→i < n→k < j→j < n→(z:Rat)=dg w (k+1)*w i j:=fun i j=>by
  by_cases e:k < i∧i < n∧k < j∧j < n
  ·obtain ⟨h1,h2,h3,h4⟩:=e
   let ri:Nat→Nat:=fun s=>if s≤k then s else i
   let cj:Nat→Nat:=fun s=>if s≤k then s else j
   have hri:∀ s,s < k+2→ri s < n:=fun s _=>by show (if s≤k then s else i) < n; split<;>omega
   have hcj:∀ s,s < k+2→cj s < n:=fun s _=>by show (if s≤k then s else j) < n; split<;>omega
   have hd1:La.det (k+2) (fun s t=>w (ri s) (cj t))=La.det (k+2) fun s t=>(A' (ri s) (cj t):Rat):=det_uni fun s hs=>by
    obtain ⟨c,hc⟩:=hcomb (ri s) (hri s hs)
    refine ⟨c,fun t ht=>?_⟩
    rw [hc _ (hcj t ht)]
    congr 1
    have e3:min (ri s) (k+1)=s:=by
     show min (if s≤k then s else i) (k+1)=s
     split<;>omega
    rw [e3]
    refine La.sm_congr fun x hx=>?_
    have:ri x=x:=if_pos (by omega)
    rw [this]
   have hd2:La.det (k+2) (fun s t=>w (ri s) (cj t))=dg w (k+1)*w i j:=by
    rw [jF fun s t hs ht=>by
     have e4:cj t=t:=if_pos (by omega)
     rw [e4]
     have e5:s≤ri s:=by show s≤if s≤k then s else i; split<;>omega
     exact htri _ _ (hri s hs) (by omega) (by omega)]
    show dg (fun s t=>w (ri s) (cj t)) (k+1)*w (ri (k+1)) (cj (k+1))=_
    rw [show ri (k+1)=i from if_neg (by omega),show cj (k+1)=j from if_neg (by omega)]
    congr 1
    refine je fun x hx=>?_
    rw [show ri x=x from if_pos (by omega),show cj x=x from if_pos (by omega)]
   have hd3:=Fq.hom_q.det (k+2) fun s t=>A' (ri s) (cj t)
   refine ⟨Lr.det (k+2) fun s t=>A' (ri s) (cj t),fun _ _ _ _=>?_⟩
   rw [← hd2,hd1,← Lr.det_la]
   exact hd3
  ·exact ⟨0,fun h1 h2 h3 h4=>absurd ⟨h1,h2,h3,h4⟩ e⟩
 let b:Mx Int:=fun i j=>Classical.choose (hb i j)
 have hbs:∀ i j,k < i→i < n→k < j→j < n→(b i j:Rat)=dg w (k+1)*w i j:=fun i j=>Classical.choose_spec (hb i j)
 refine ⟨b,fun i j h1 h2 h3 h4=>?_,fun a' ha'=>⟨by rw [← hlast]; exact fun e=>h0 (Rat.intCast_eq_zero_iff.1 e),hlast,h.sg,htri,hcomb,fun i j h1 h2 h3 h4=>by rw [ha' i j (by omega) h2 (by omega) h4]; exact hbs i j (by omega) h2 (by omega) h4⟩⟩
 refine Rat.intCast_inj.1 ?_
 rw [Rat.intCast_sub,Rat.intCast_mul,Rat.intCast_mul,Rat.intCast_mul,hbs i j h1 h2 h3 h4,hwg i j h1,h.val i j (by omega) h2 (by omega) h4,h.val i k (by omega) h2 (Nat.le_refl k) hk,h.val k j (Nat.le_refl k) hk (by omega) h4,hkk,h.last,hdw _ (Nat.le_refl _),hdk]
 have e6:u i k / u k k*u k k=u i k:=Rat.div_mul_cancel hu0
 grind
theorem Br.done {n:Nat} {A A' a:Mx Int} {u:Mx Rat} {last sign:Int} (h:Br n A n A' u a last sign):Lr.det n A=sign*last:=by
 refine Rat.intCast_inj.1 ?_
 have h1:=Fq.hom_q.det n A
 rw [Lr.det_la] at h1
 rw [h1,h.sg,Rat.intCast_mul,h.last]
 congr 1
 rw [← jF fun i j hi hj=>h.tri i j hi hj (by omega)]
 refine (det_uni fun i hi=>?_).symm
 obtain ⟨c,hc⟩:=h.comb i hi
 exact ⟨c,fun j hj=>by rw [hc j hj,show min i n=i by omega]⟩
theorem Br.none {n k:Nat} {A A' a:Mx Int} {u:Mx Rat} {last sign:Int} (h:Br n A k A' u a last sign) (hk:k < n) (hz:∀ i,k≤i→i < n→a i k=0):Lr.det n A=0:=by
 have hu:∀ i,k≤i→i < n→u i k=0:=fun i h1 h2=>by
  have:=h.val i k h1 h2 (Nat.le_refl k) hk
  rw [hz i h1 h2] at this
  rcases La.mul_eq_zero this.symm with e | e
  ·exact absurd e h.ne
  ·exact e
 have h2:La.det n u=0:=by
  obtain ⟨x,⟨t,ht,hx0⟩,hx⟩:=La.kernel_ne k (k+1) u (Nat.lt_succ_self k)
  apply Classical.byContradiction
  intro hne
  rw [← La.det_tr] at hne
  have h3:=Fq.det_indep hne (x:=fun i=>if i < k+1 then x i else 0) fun j hj=>?_
  ·have:=h3 t (by omega)
   rw [if_pos ht] at this
   exact hx0 this
  ·have e:n=(k+1)+(n - (k+1)):=by omega
   rw [e,La.sm_app,La.sm_zero (n:=n - (k+1)) fun i _=>by rw [if_neg (by omega),Rat.zero_mul],Rat.add_zero]
   by_cases e2:j < k
   ·rw [← hx j e2]
    refine La.sm_congr fun i hi=>?_
    rw [if_pos hi,Rat.mul_comm]; rfl
   ·refine La.sm_zero fun i hi=>?_
    rw [if_pos hi]
    show x i*u j i=0
    by_cases e3:i=k
    ·subst e3; rw [hu j (by omega) hj,Rat.mul_zero]
    ·rw [h.tri j i hj (by omega) (by omega),Rat.mul_zero]
 have h1:=Fq.hom_q.det n A
 rw [Lr.det_la] at h1
 have h4:La.det n u=La.det n fun i j=>(A' i j:Rat):=det_uni fun i hi=>by
  obtain ⟨c,hc⟩:=h.comb i hi
  refine ⟨fun t=>if t < min i k then c t else 0,fun j hj=>?_⟩
  rw [hc j hj]
  congr 1
  exact (QjG (Nat.min_le_left i k) c fun t=>u t j).symm
 have h5:((Lr.det n A:Int):Rat)=0:=by rw [h1,h.sg,← h4,h2,Rat.mul_zero]
 exact Rat.intCast_eq_zero_iff.1 h5
end Go.Bz

/- Positive definite forms: the leading minors are positive. No condition. -/
namespace Go.La
structure Gs (n:Nat) (A:Mx Rat) (k:Nat) (P:Mx Rat):Prop where
 uni:∀ i,i < k→∃ c:Nat→Rat,∀ j,j < n→P i j=idm i j+sm i fun t=>c t*P t j
 sup:∀ i j,i < k→i < j→j < n→P i j=0
 one:∀ i,i < k→P i i=1
 ort:∀ i j,i < k→j < k→i≠j→bl n A (P i) (P j)=0
theorem Gs.zero {n:Nat} {A P:Mx Rat}:Gs n A 0 P:=⟨fun _ h=>absurd h (Nat.not_lt_zero _),fun _ _ h=>absurd h (Nat.not_lt_zero _),fun _ h=>absurd h (Nat.not_lt_zero _),fun _ _ h=>absurd h (Nat.not_lt_zero _)⟩
theorem Gs.next {n k:Nat} {A P:Mx Rat} (hA:∀ i j,i < n→j < n→A i j=A j i) (h:Gs n A k P) (hk:k < n) (hD:∀ t,t < k→bl n A (P t) (P t)≠0):∃ P',Gs n A (k+1) P'∧∀ t,t < k→P' t=P t:=by
 let c:Nat→Rat:=fun t => -(bl n A (idm k) (P t) / bl n A (P t) (P t))
 let v:Nat→Rat:=fun j=>idm k j+sm k fun t=>c t*P t j
 have hv:∀ t,t < k→bl n A v (P t)=0:=fun t ht=>by
  have e1:bl n A v (P t)=bl n A (idm k) (P t)+1*bl n A (fun j=>sm k fun t=>c t*P t j) (P t):=by
   rw [← QI]
   exact bl_congr (fun _ _ _ _=>rfl) (fun j _=>by show _=_+1*_; rw [Rat.one_mul]) fun _ _=>rfl
  rw [e1,YS (T:=P) (r:=k) (c:=c) fun _ _=>rfl,sm_one t ht fun s hs hne=>by rw [h.ort s t hs ht hne,Rat.mul_zero]]
  show _+1*(-(bl n A (idm k) (P t) / bl n A (P t) (P t))*bl n A (P t) (P t))=0
  rw [Rat.neg_mul,Rat.div_mul_cancel (hD t ht)]
  grind
 refine ⟨setr P k v,⟨fun i hi=>?_,fun i j hi hj hjn=>?_,fun i hi=>?_,fun i j hi hj hne=>?_⟩,fun t ht=>setr_ne _ _ (by omega)⟩
 ·by_cases e:i=k
  ·subst e
   refine ⟨c,fun j _=>?_⟩
   rw [Ql]
   show idm i j+_=_
   congr 1
   exact sm_congr fun t ht=>by rw [setr_ne _ _ (by omega)]
  ·obtain ⟨c',hc⟩:=h.uni i (by omega)
   refine ⟨c',fun j hj=>?_⟩
   rw [setr_ne _ _ e,hc j hj]
   congr 1
   exact sm_congr fun t ht=>by rw [setr_ne _ _ (by omega)]
 ·by_cases e:i=k
  ·subst e
   rw [Ql]
   show idm i j+sm i (fun t=>c t*P t j)=0
   rw [show (idm i j:Rat)=0 from if_neg (by omega),sm_zero fun t ht=>by rw [h.sup t j ht (by omega) hjn,Rat.mul_zero]]
   exact Rat.add_zero _
  ·rw [setr_ne _ _ e]; exact h.sup i j (by omega) hj hjn
 ·by_cases e:i=k
  ·subst e
   rw [Ql]
   show idm i i+sm i (fun t=>c t*P t i)=1
   rw [show (idm i i:Rat)=1 from if_pos rfl,sm_zero fun t ht=>by rw [h.sup t i ht ht hk,Rat.mul_zero]]
   exact Rat.add_zero _
  ·rw [setr_ne _ _ e]; exact h.one i (by omega)
 ·by_cases e:i=k
  ·subst e
   rw [Ql,setr_ne _ _ (Ne.symm hne)]
   exact hv j (by omega)
  ·by_cases e2:j=k
   ·subst e2
    rw [Ql,setr_ne _ _ e,bl_symm hA]
    exact hv i (by omega)
   ·rw [setr_ne _ _ e,setr_ne _ _ e2]; exact h.ort i j (by omega) (by omega) hne
theorem Qjs {n m:Nat} {A:Mx Rat} {x y:Nat→Rat} (hm:m≤n) (hx:∀ j,m≤j→j < n→x j=0) (hy:∀ j,m≤j→j < n→y j=0):bl n A x y=bl m A x y:=by
 obtain ⟨d,rfl⟩:∃ d,n=m+d:=⟨n - m,by omega⟩
 unfold bl
 rw [sm_app,sm_zero (n:=d) fun k hk=>by rw [hy (m+k) (by omega) (by omega),Rat.mul_zero],add_zero]
 refine sm_congr fun j _=>?_
 rw [sm_app,sm_zero (n:=d) fun k hk=>by rw [hx (m+k) (by omega) (by omega),Rat.zero_mul],add_zero]
theorem Gs.det {n m:Nat} {A P:Mx Rat} (h:Gs n A m P) (hm:m≤n):La.det m A=pd m fun i=>bl n A (P i) (P i):=by
 have hU:La.det m P=1:=by
  rw [Bz.det_uni (a:=(idm:Mx Rat)) fun i hi=>?_,det_idm]
  obtain ⟨c,hc⟩:=h.uni i hi
  exact ⟨c,fun j hj=>hc j (by omega)⟩
 have e1:La.det m (mm m (mm m P A) (tr P))=La.det m A:=by
  rw [det_mm,det_mm,det_tr,hU]; grind
 have hz:∀ i,i < m→∀ j,m≤j→j < n→P i j=0:=fun i hi j hj hjn=>h.sup i j hi (by omega) hjn
 have e2:∀ i j,i < m→j < m→mm m (mm m P A) (tr P) i j=bl n A (P i) (P j):=fun i j hi hj=>by
  rw [Qjs hm (hz i hi) (hz j hj)]
  rfl
 rw [← e1,det_congr e2]
 refine vq fun i j hi hj hne=>?_
 exact h.ort i j hi hj hne
theorem Qdf:∀ {n:Nat} {f:Nat→Rat},(∀ i,i < n→0 < f i)→0 < pd n f
 | 0,_,_=>by show (0:Rat) < 1; decide
 | n+1,f,h=>Rat.mul_pos (Qdf fun i hi=>h i (by omega)) (h n (by omega))
theorem Qhn {n:Nat} {A:Mx Rat} (hA:∀ i j,i < n→j < n→A i j=A j i) (hd:∀ k,1≤k→k≤n→0 < det k A):∀ k,k≤n→∃ P,Gs n A k P∧∀ t,t < k→0 < bl n A (P t) (P t):=by
 intro k
 induction k with
 | zero=>exact fun _=>⟨A,Gs.zero,fun t h=>absurd h (Nat.not_lt_zero t)⟩
 | succ k ih =>
  intro hk
  obtain ⟨P,h1,h2⟩:=ih (by omega)
  obtain ⟨P',h3,h4⟩:=h1.next hA (by omega) fun t ht e=>by have:=h2 t ht; rw [e] at this; exact absurd this (by decide)
  refine ⟨P',h3,fun t ht=>?_⟩
  by_cases e:t=k
  ·subst e
   have h5:=h3.det hk
   have h6:=hd (t+1) (by omega) hk
   rw [h5] at h6
   have h7:pd t (fun i=>bl n A (P' i) (P' i))=pd t fun i=>bl n A (P i) (P i):=yL fun i hi=>by rw [h4 i hi]
   have h8:0 < pd t fun i=>bl n A (P i) (P i):=Qdf h2
   have h9:0 < pd t (fun i=>bl n A (P i) (P i))*bl n A (P' t) (P' t):=by rw [← h7]; exact h6
   apply Classical.byContradiction
   intro hn
   have:=Rat.mul_le_mul_of_nonneg_left (c:=pd t fun i=>bl n A (P i) (P i)) (Rat.not_lt.1 hn) (Rat.le_of_lt h8)
   rw [Rat.mul_zero] at this
   exact absurd h9 (Rat.not_lt.2 this)
  ·rw [h4 t (by omega)]; exact h2 t (by omega)
def Pdf (n:Nat) (A:Mx Rat):Prop:=∀ x:Nat→Rat,(∃ j,j < n∧x j≠0)→0 < bl n A x x
theorem vV {n:Nat} {A P:Mx Rat} (hp:∀ i,i < n→0 < bl n A (P i) (P i)) (ho:∀ i j,i < n→j < n→i≠j→bl n A (P i) (P j)=0):Pdf n A:=by
 intro x ⟨j0,hj0,hx0⟩
 obtain ⟨y,⟨t,ht,hyt⟩,hy⟩:=kernel_ne n (n+1) (fun j i=>if i < n then P i j else x j) (Nat.lt_succ_self n)
 have hy':∀ j,j < n→(sm n fun i=>y i*P i j)+y n*x j=0:=fun j hj=>by
  rw [← hy j hj,sm]
  show _=sm n _+(if n < n then P n j else x j)*y n
  rw [if_neg (Nat.lt_irrefl n),Rat.mul_comm (x j)]
  congr 1
  exact sm_congr fun i hi=>by show _=(if i < n then P i j else x j)*y i; rw [if_pos hi,Rat.mul_comm]
 have hq:bl n A (fun j=>sm n fun i=>y i*P i j) (fun j=>sm n fun i=>y i*P i j)=sm n fun i=>y i*y i*bl n A (P i) (P i):=by
  rw [YS (T:=P) (r:=n) (c:=y) fun _ _=>rfl]
  refine sm_congr fun i hi=>?_
  rw [ji (T:=P) (r:=n) (c:=y) fun _ _=>rfl,sm_one i hi fun s hs hne=>by rw [ho i s hi hs (Ne.symm hne),Rat.mul_zero],Rat.mul_assoc]
 have hx:bl n A (fun j=>sm n fun i=>y i*P i j) (fun j=>sm n fun i=>y i*P i j)=y n*y n*bl n A x x:=by
  have e:∀ j,j < n→(sm n fun i=>y i*P i j)=sm 1 fun k => -(y n)*(fun _=>x) k j:=fun j hj=>by
   have:=hy' j hj
   show _=0 + -(y n)*x j
   grind
  rw [YS (T:=fun _=>x) (r:=1) (c:=fun _ => -(y n)) e]
  show 0 + -(y n)*_=_
  rw [ji (T:=fun _=>x) (r:=1) (c:=fun _ => -(y n)) e]
  show 0 + -(y n)*(0 + -(y n)*_)=_
  grind
 have hne:∃ i,i < n∧y i≠0:=by
  apply Classical.byContradiction
  intro h
  have h0:∀ i,i < n→y i=0:=fun i hi=>Classical.byContradiction fun e=>h ⟨i,hi,e⟩
  have hyn:y n≠0:=by
   by_cases e:t=n
   ·subst e; exact hyt
   ·exact absurd (h0 t (by omega)) hyt
  have:=hy' j0 hj0
  rw [sm_zero fun i hi=>by rw [h0 i hi,Rat.zero_mul],Rat.zero_add] at this
  rcases mul_eq_zero this with e | e
  ·exact hyn e
  ·exact hx0 e
 obtain ⟨s,hs,hys⟩:=hne
 have hpos:0 < sm n fun i=>y i*y i*bl n A (P i) (P i):=QcF (fun i hi=>Rat.mul_nonneg (sq_nonneg _) (Rat.le_of_lt (hp i hi))) hs (Rat.mul_pos (sq_pos hys) (hp s hs))
 rw [← hq,hx] at hpos
 apply Classical.byContradiction
 intro hn
 have:=Rat.mul_le_mul_of_nonneg_left (c:=y n*y n) (Rat.not_lt.1 hn) (sq_nonneg _)
 rw [Rat.mul_zero] at this
 exact absurd hpos (Rat.not_lt.2 this)
theorem Qdb {n:Nat} {A:Mx Rat} (hA:∀ i j,i < n→j < n→A i j=A j i) (h:Pdf n A):∀ k,k≤n→(∃ P,Gs n A k P∧∀ t,t < k→0 < bl n A (P t) (P t))∧0 < det k A:=by
 intro k hk
 have main:∃ P,Gs n A k P∧∀ t,t < k→0 < bl n A (P t) (P t):=by
  induction k with
  | zero=>exact ⟨A,Gs.zero,fun t h=>absurd h (Nat.not_lt_zero t)⟩
  | succ k ih =>
   obtain ⟨P,h1,h2⟩:=ih (by omega)
   obtain ⟨P',h3,h4⟩:=h1.next hA (by omega) fun t ht e=>by have:=h2 t ht; rw [e] at this; exact absurd this (by decide)
   refine ⟨P',h3,fun t ht=>?_⟩
   exact h _ ⟨t,by omega,by rw [h3.one t ht]; decide⟩
 refine ⟨main,?_⟩
 obtain ⟨P,h1,h2⟩:=main
 rw [h1.det hk]
 exact Qdf h2
theorem minors_pdf {n:Nat} {A:Mx Rat} (hA:∀ i j,i < n→j < n→A i j=A j i) (hd:∀ k,1≤k→k≤n→0 < det k A):Pdf n A:=by
 obtain ⟨P,h1,h2⟩:=Qhn hA hd n (Nat.le_refl n)
 exact vV h2 h1.ort
theorem sig_pdf {n p m w:Nat} {A P N W:Mx Rat} (hA:∀ i j,i < n→j < n→A i j=A j i) (h:Sig n p m w A P N W):p=n↔∀ k,1≤k→k≤n→0 < det k A:=by
 constructor
 ·intro e k _ hk
  subst e
  exact (Qdb hA (vV h.pp h.po) k hk).2
 ·intro hd
  obtain ⟨Q,h1,h2⟩:=Qhn hA hd n (Nat.le_refl n)
  have h3:Sig n n 0 0 A Q Q Q:=⟨h2,fun _ h=>absurd h (Nat.not_lt_zero _),h1.ort,fun _ _ h=>absurd h (Nat.not_lt_zero _),fun _ _ h=>absurd h (Nat.not_lt_zero _),fun _ _ _ h=>absurd h (Nat.not_lt_zero _),fun _ _ h=>absurd h (Nat.not_lt_zero _),fun _ _ h=>absurd h (Nat.not_lt_zero _),fun x=>?_⟩
  ·exact (h.unique hA h3).1
  ·have hdu:La.det n Q≠0:=by
    rw [Bz.det_uni (a:=(idm:Mx Rat)) fun i hi=>h1.uni i hi,det_idm]; decide
   obtain ⟨r,R,q,d,hR⟩:=red_ex n Q
   rcases Nat.lt_or_eq_of_le hR.le with h4 | h4
   ·exact absurd ((hR.rop rfl).det0 (r:=n - 1) (by omega) fun j hj=>hR.zero (n - 1) j (by omega) (by omega) hj) hdu
   ·subst h4
    have h5:Sp r r (idm:Mx Rat) x:=Qcw x
    have h6:Sp r r R x:=h5.congr (fun i j hi hj=>(hR.ech.full.2 i j hi hj).symm) fun _ _=>rfl
    have h7:=hR.span.sp.1 h6
    exact h7.congr (fun i j hi _=>by unfold stack; rw [if_pos hi]) fun _ _=>rfl
end Go.La

/- The bound of a determinant of integers. No condition. -/
namespace Go.La
def pz:Nat→(Nat→Int)→Int
 | 0,_=>1
 | n+1,f=>pz n f*f n
theorem pz_q:∀ (n:Nat) (f:Nat→Int),((pz n f:Int):Rat)=pd n fun i=>(f i:Rat)
 | 0,_=>rfl
 | n+1,f=>by show ((pz n f*f n:Int):Rat)=_; rw [Rat.intCast_mul,pz_q n f]; rfl
theorem QfG {x y:Int} (hy:0≤y) (h:x*x≤y*y) : -y≤x∧x≤y:=by
 constructor
 ·rcases Int.lt_or_le x (-y) with h1 | h1
  ·have:=Int.mul_le_mul (show y+1 ≤ -x by omega) (show y+1 ≤ -x by omega) (by omega) (by omega)
   rw [Int.neg_mul_neg,Int.add_mul,Int.mul_add,Int.one_mul,Int.mul_one] at this
   omega
  ·exact h1
 ·rcases Int.lt_or_le y x with h1 | h1
  ·have:=Int.mul_le_mul (show y+1≤x by omega) (show y+1≤x by omega) (by omega) (by omega)
   rw [Int.add_mul,Int.mul_add,Int.one_mul,Int.mul_one] at this
   omega
  ·exact h1
theorem Qek {n:Nat} {A:Mx Int} {r:Nat→Int} (hr:∀ i,i < n→0≤r i∧Lr.sm n (fun j=>A i j*A i j)≤r i*r i) : -(pz n r)≤Lr.det n A∧Lr.det n A≤pz n r:=by
 have hp:0≤pz n r:=by
  have:∀ m,m≤n→0≤pz m r:=fun m=>by
   induction m with
   | zero=>exact fun _=>by show (0:Int)≤1; decide
   | succ m ih=>exact fun hm=>Int.mul_nonneg (ih (by omega)) (hr m (by omega)).1
  exact this n (Nat.le_refl n)
 refine QfG hp ?_
 have h1:=Fq.hom_q.det n A
 rw [Lr.det_la] at h1
 have h2:=hadamard n fun i j=>((A i j:Int):Rat)
 have h3:(pd n fun i=>ip n (fun j=>((A i j:Int):Rat)) fun j=>((A i j:Int):Rat))≤pd n fun i=>((r i*r i:Int):Rat):=Qfk fun i hi=>by
  refine ⟨QaB _ _,?_⟩
  have e:ip n (fun j=>((A i j:Int):Rat)) (fun j=>((A i j:Int):Rat))=((Lr.sm n (fun j=>A i j*A i j):Int):Rat):=by
   rw [Fq.hom_q.sm,Lr.sm_la]
   exact sm_congr fun j _=>(Rat.intCast_mul _ _).symm
  rw [e]
  exact Rat.intCast_le_intCast.2 (hr i hi).2
 have h4:(pd n fun i=>((r i*r i:Int):Rat))=((pz n r*pz n r:Int):Rat):=by
  rw [Rat.intCast_mul,pz_q,← Qfi]
  exact yL fun i _=>Rat.intCast_mul _ _
 have h5:((Lr.det n A*Lr.det n A:Int):Rat)≤((pz n r*pz n r:Int):Rat):=by
  rw [Rat.intCast_mul,← h4]
  have h1':((Lr.det n A:Int):Rat)=La.det n fun i j=>((A i j:Int):Rat):=h1
  rw [h1']
  exact Rat.le_trans h2 h3
 exact Rat.intCast_le_intCast.1 h5
end Go.La

/- The vectors of a box in lexicographic order. No condition. -/
namespace Go.Bx
def vol (b:Nat→Nat) (n:Nat):Nat→Nat
 | 0=>1
 | k+1=>(2*b (n - (k+1))+1)*vol b n k
def str (b:Nat→Nat) (n i:Nat):Nat:=vol b n (n - (i+1))
def all (b:Nat→Nat) (n:Nat):Nat:=vol b n n
def dig (b:Nat→Nat) (n k i:Nat):Nat:=(k / str b n i) % (2*b i+1)
def vec (b:Nat→Nat) (n k i:Nat):Int:=(dig b n k i:Int) - b i
def Full (b:Nat→Nat) (n k i:Nat):Prop:=∀ j,i < j→j < n→dig b n k j=2*b j
end Go.Bx

/- Boxes: the reverse order, boxes side by side, counts. No condition. -/
namespace Go.Bx
def cnt:Nat→(Nat→Bool)→Nat
 | 0,_=>0
 | n+1,f=>cnt n f+if f n then 1 else 0
theorem VS:∀ {n:Nat} {f g:Nat→Bool},(∀ k,k < n→f k=g k)→cnt n f=cnt n g
 | 0,_,_,_=>rfl
 | n+1,f,g,h=>by show cnt n f+_=cnt n g+_; rw [VS fun k hk=>h k (by omega),h n (by omega)]
theorem jg:∀ {n:Nat} {f:Nat→Bool},(∀ k,k < n→f k=false)→cnt n f=0
 | 0,_,_=>rfl
 | n+1,f,h=>by show cnt n f+_=0; rw [jg fun k hk=>h k (by omega),h n (by omega)]; rfl
def sumn:Nat→(Nat→Nat)→Nat
 | 0,_=>0
 | n+1,f=>sumn n f+f n
end Go.Bx

/- Boxes hold all vectors of small value; vectors and their numbers. No condition. -/
namespace Go.Bx
open Go.La (bl bl_symm QI bl_comb_right QaO idm Pdf)
theorem cauchy {n:Nat} {A:La.Mx Rat} (hA:∀ i j,i < n→j < n→A i j=A j i) (h:∀ x,0≤bl n A x x) (x y:Nat→Rat):bl n A x y*bl n A x y≤bl n A x x*bl n A y y:=by
 have key:∀ s t:Rat,0≤s*s*bl n A x x+2*(s*t)*bl n A x y+t*t*bl n A y y:=fun s t=>by
  have h1:=h (fun j=>s*x j+t*y j)
  have e0:∀ z,bl n A (fun j=>s*x j+t*y j) z=s*bl n A x z+t*bl n A y z:=fun z=>by
   rw [QI]
   congr 1
   have:=QI (n:=n) (A:=A) (u:=fun _=>0) (v:=x) (y:=z) s
   have e1:bl n A (fun _=>(0:Rat)) z=0:=La.sm_zero fun j _=>by rw [La.sm_zero fun i _=>Rat.zero_mul _,Rat.zero_mul]
   rw [e1,Rat.zero_add] at this
   rw [← this]
   exact La.bl_congr (fun _ _ _ _=>rfl) (fun j _=>(Rat.zero_add _).symm) fun _ _=>rfl
  rw [e0,bl_symm hA x,bl_symm hA y (fun j=>s*x j+t*y j),e0,e0,bl_symm hA y x] at h1
  grind
 by_cases e:bl n A y y=0
 ·have k1:=key 1 (-(bl n A x x+1)*bl n A x y)
  rw [e] at k1 ⊢
  have hx:=h x
  have hs:=La.sq_nonneg (bl n A x y)
  have hp:0≤(bl n A x x)*(bl n A x y*bl n A x y):=Rat.mul_nonneg hx hs
  by_cases e2:bl n A x y=0
  ·rw [e2]; grind
  ·have hq:=La.sq_pos e2
   have k2:=key (bl n A x y) (-(bl n A x x+1))
   rw [e] at k2
   grind
 ·have hy:0 < bl n A y y:=by have:=h y; grind
  have k1:=key (bl n A y y) (-(bl n A x y))
  have k2:0≤bl n A y y*(bl n A x x*bl n A y y - bl n A x y*bl n A x y):=by grind
  apply Classical.byContradiction
  intro hn
  have h3:0 < bl n A x y*bl n A x y - bl n A x x*bl n A y y:=by
   have:=Rat.not_le.1 hn
   grind
  have:=Rat.mul_pos hy h3
  grind
theorem Qdi {n:Nat} {A:La.Mx Rat} (h:Pdf n A) (x:Nat→Rat):0≤bl n A x x:=by
 by_cases e:∃ j,j < n∧x j≠0
 ·exact Rat.le_of_lt (h x e)
 ·have h0:∀ j,j < n→x j=0:=fun j hj=>Classical.byContradiction fun e2=>e ⟨j,hj,e2⟩
  have:bl n A x x=0:=La.sm_zero fun j hj=>by rw [h0 j hj,Rat.mul_zero]
  rw [this]; exact Rat.le_refl
theorem coord {n:Nat} {A B:La.Mx Rat} (hA:∀ i j,i < n→j < n→A i j=A j i) (h:Pdf n A) (hB:∀ i j,i < n→j < n→La.mm n A B i j=idm i j) {i:Nat} (hi:i < n) (x:Nat→Rat):x i*x i≤bl n A x x*B i i:=by
 have h1:=cauchy hA (Qdi h) x (fun j=>B j i)
 have e1:bl n A x (fun j=>B j i)=x i:=by
  have:bl n A x (fun j=>B j i)=La.sm n fun k=>x k*La.mm n A B k i:=by
   unfold bl La.mm
   rw [La.sm_congr (f:=fun j=>(La.sm n fun k=>x k*A k j)*B j i) (g:=fun j=>La.sm n fun k=>x k*(A k j*B j i)) fun j _=>by
    rw [← La.sm_mul']; exact La.sm_congr fun k _=>Rat.mul_assoc _ _ _,La.sm_comm]
   exact La.sm_congr fun k _=>La.sm_mul _ _ _
  rw [this,La.sm_one i hi fun k hk hne=>by rw [hB k i hk hi,show (idm k i:Rat)=0 from if_neg hne,Rat.mul_zero],hB i i hi hi,show (idm i i:Rat)=1 from if_pos rfl,Rat.mul_one]
 have e2:bl n A (fun j=>B j i) (fun j=>B j i)=B i i:=by
  unfold bl
  have:∀ j,j < n→(La.sm n fun k=>B k i*A k j)=idm j i:=fun j hj=>by
   rw [← hB j i hj hi]
   exact La.sm_congr fun k hk=>by rw [Rat.mul_comm,hA k j hk hj]
  rw [La.sm_congr fun j hj=>by rw [this j hj],La.sm_one i hi fun k hk hne=>by rw [show (idm k i:Rat)=0 from if_neg hne,Rat.zero_mul],show (idm i i:Rat)=1 from if_pos rfl,Rat.one_mul]
 rw [e1,e2] at h1
 exact h1
end Go.Bx

/- The inverse of a matrix of integers by its adjugate: sizes, signs. No condition. -/
namespace Go.La
theorem mm_asc {n:Nat} (X A Y:Mx Rat) (i j:Nat):mm n (mm n X A) Y i j=mm n X (mm n A Y) i j:=by
 unfold mm
 rw [sm_congr (f:=fun k=>(sm n fun l=>X i l*A l k)*Y k j) (g:=fun k=>sm n fun l=>X i l*(A l k*Y k j)) fun k _=>by
  rw [← sm_mul']; exact sm_congr fun l _=>Rat.mul_assoc _ _ _,sm_comm]
 exact sm_congr fun l _=>sm_mul _ _ _
theorem adj_rt {n:Nat} {A:Mx Int} {l k:Nat} (hl:l < n) (hk:k < n):(sm n fun j=>((A l j:Int):Rat)*((Lr.adj n A j k:Int):Rat))=if l=k then ((Lr.det n A:Int):Rat) else 0:=by
 have h:=congrArg (fun z:Int=>(z:Rat)) (Lr.mul_adj (M:=A) hl hk)
 have e:((Lr.sm n (fun j=>A l j*Lr.adj n A j k):Int):Rat)=sm n fun j=>((A l j:Int):Rat)*((Lr.adj n A j k:Int):Rat):=by
  rw [Fq.hom_q.sm,Lr.sm_la]
  exact sm_congr fun j _=>Rat.intCast_mul _ _
 rw [← e]
 refine h.trans ?_
 show (((if l=k then Lr.det n A else 0:Int)):Rat)=_
 split<;>rfl
theorem inv_adj {n:Nat} {A:Mx Int} {X:Mx Rat} (hX:∀ i j,i < n→j < n→mm n X (fun i j=>((A i j:Int):Rat)) i j=idm i j) {i k:Nat} (hi:i < n) (hk:k < n) :
  ((Lr.det n A:Int):Rat)*X i k=((Lr.adj n A i k:Int):Rat):=by
 have h1:mm n X (mm n (fun i j=>((A i j:Int):Rat)) fun i j=>((Lr.adj n A i j:Int):Rat)) i k=X i k*((Lr.det n A:Int):Rat):=by
  show (sm n fun l=>X i l*sm n fun j=>((A l j:Int):Rat)*((Lr.adj n A j k:Int):Rat))=_
  rw [sm_one k hk fun l hl hne=>by rw [adj_rt hl hk,if_neg hne,Rat.mul_zero],adj_rt hk hk,if_pos rfl]
 rw [Rat.mul_comm,← h1,← mm_asc]
 show (sm n fun j=>mm n X (fun i j=>((A i j:Int):Rat)) i j*((Lr.adj n A j k:Int):Rat))=_
 rw [sm_one i hi fun j hj hne=>by rw [hX i j hi hj,show (idm i j:Rat)=0 from if_neg (Ne.symm hne),Rat.zero_mul],hX i i hi hi,show (idm i i:Rat)=1 from if_pos rfl,Rat.one_mul]
theorem inv_rt {n:Nat} {A:Mx Int} {X:Mx Rat} (hX:∀ i j,i < n→j < n→mm n X (fun i j=>((A i j:Int):Rat)) i j=idm i j) (hd:Lr.det n A≠0) {i k:Nat} (hi:i < n) (hk:k < n) :
  mm n (fun i j=>((A i j:Int):Rat)) X i k=idm i k:=by
 have hd0:((Lr.det n A:Int):Rat)≠0:=fun e=>hd (Rat.intCast_inj.1 (e.trans (show (0:Rat)=((0:Int):Rat) from rfl)))
 have h1:((Lr.det n A:Int):Rat)*mm n (fun i j=>((A i j:Int):Rat)) X i k=((Lr.det n A:Int):Rat)*idm i k:=by
  show _*(sm n fun j=>((A i j:Int):Rat)*X j k)=_
  rw [← sm_mul,sm_congr (g:=fun j=>((A i j:Int):Rat)*((Lr.adj n A j k:Int):Rat)) fun j hj=>by rw [← Rat.mul_assoc,Rat.mul_comm ((Lr.det n A:Int):Rat),Rat.mul_assoc,inv_adj hX hj hk],adj_rt hi hk]
  show _=_*(if i=k then (1:Rat) else 0)
  split
  ·rw [Rat.mul_one]
  ·rw [Rat.mul_zero]
 have:=congrArg (fun q=>((Lr.det n A:Int):Rat)⁻¹*q) h1
 simpa only [← Rat.mul_assoc,Rat.inv_mul_cancel _ hd0,Rat.one_mul] using this
theorem Qfg {c:Int}:∀ {n:Nat} {f:Nat→Int},(∀ j,j < n→f j≤c)→Lr.sm n f≤n*c
 | 0,_,_=>by show (0:Int)≤0*c; omega
 | n+1,f,h=>by
  have h1:=Qfg (n:=n) (f:=f) fun j hj=>h j (by omega)
  have h2:=h n (by omega)
  show Lr.sm n f+f n≤((n+1:Nat):Int)*c
  rw [Int.natCast_add,Int.add_mul]
  omega
theorem det_bd {n:Nat} {A:Mx Int} (hn:n≤8) (hb:∀ i j,i < n→j < n → -1000≤A i j∧A i j≤1000):(Lr.det n A).natAbs≤3000 ^ 8:=by
 have h:=Qek (A:=A) (r:=fun _=>3000) (n:=n) fun i hi=>⟨by decide,by
  have:=Qfg (c:=1000000) (n:=n) (f:=fun j=>A i j*A i j) fun j hj=>by
   obtain ⟨h1,h2⟩:=hb i j hi hj
   have:(1000 - A i j)*(1000+A i j) ≥ 0:=Int.mul_nonneg (by omega) (by omega)
   rw [Int.sub_mul,Int.mul_add,Int.mul_add,Int.mul_comm (A i j) 1000] at this
   omega
  omega⟩
 have hp:pz n (fun _=>3000)≤3000 ^ 8:=by
  have:n=0∨n=1∨n=2∨n=3∨n=4∨n=5∨n=6∨n=7∨n=8:=by omega
  rcases this with rfl | rfl | rfl | rfl | rfl | rfl | rfl | rfl | rfl<;>decide
 have e:((3000:Int) ^ 8)=((3000 ^ 8:Nat):Int):=by decide
 omega
theorem adj_bd {n:Nat} {A:Mx Int} {i k:Nat} (hn:n≤8) (hb:∀ i j,i < n→j < n → -1000≤A i j∧A i j≤1000):(Lr.adj n A i k).natAbs≤3000 ^ 8:=by
 refine det_bd hn fun a b ha hb'=>?_
 by_cases e:a=k
 ·subst e
  rw [Ql]
  show -1000≤(if i=b then (1:Int) else 0)∧(if i=b then (1:Int) else 0)≤1000
  split<;>omega
 ·rw [setr_ne _ _ e]
  exact hb a b ha hb'
theorem pos_diag {n:Nat} {A B:Mx Rat} (hA:∀ i j,i < n→j < n→A i j=A j i) (h:Pdf n A) (hB:∀ i j,i < n→j < n→mm n A B i j=idm i j) {i:Nat} (hi:i < n):0 < B i i:=by
 have h1:=Bx.coord hA h hB hi (idm i)
 have h2:=h (idm i) ⟨i,hi,by show (if i=i then (1:Rat) else 0)≠0; rw [if_pos rfl]; decide⟩
 rw [show (idm i i:Rat)=1 from if_pos rfl,Rat.mul_one] at h1
 refine Rat.not_le.1 fun h3=>?_
 have h4:bl n A (idm i) (idm i)*B i i≤0:=by
  have:=Rat.mul_le_mul_of_nonneg_left h3 (Rat.le_of_lt h2)
  rwa [Rat.mul_zero] at this
 exact absurd (Rat.le_trans h1 h4) (by decide)
end Go.La

/- Lists of the indices at which a condition holds; boxes' sizes. No condition. -/
namespace Go.Bx
def idx (p:Nat→Bool) (N:Nat):List Nat:=(List.range N).filter p
def szl (B:Nat) (b:Nat→Nat):Nat→Nat
 | 0=>1
 | i+1=>min (szl B b i*(2*min (b i) B+1)) (B+1)
def pre (b:Nat→Nat):Nat→Nat
 | 0=>1
 | i+1=>pre b i*(2*b i+1)
end Go.Bx

/- Integer square roots. No condition. -/
namespace Go.Bx
theorem QeL {a b n:Nat} (h1:a*a≤n) (h2:n < (a+1)*(a+1)) (h3:b*b≤n) (h4:n < (b+1)*(b+1)):a=b:=by
 rcases Nat.lt_trichotomy a b with h | h | h
 ·have:=Nat.mul_le_mul (show a+1≤b by omega) (show a+1≤b by omega)
  omega
 ·exact h
 ·have:=Nat.mul_le_mul (show b+1≤a by omega) (show b+1≤a by omega)
  omega
theorem Qau:∀ A:Nat,∃ R:Nat,R*R≤A∧A < (R+1)*(R+1)
 | 0=>⟨0,by decide,by decide⟩
 | A+1=>by
  obtain ⟨R,h1,h2⟩:=Qau A
  by_cases h:A+1 < (R+1)*(R+1)
  ·exact ⟨R,by omega,h⟩
  ·refine ⟨R+1,by omega,?_⟩
   have:(R+1+1)*(R+1+1)=(R+1)*(R+1)+(R+1)+(R+1)+1:=by simp only [Nat.add_mul,Nat.mul_add]; omega
   omega
noncomputable def isq (A:Nat):Nat:=Classical.choose (Qau A)
theorem QjH (A:Nat):isq A*isq A≤A:=(Classical.choose_spec (Qau A)).1
theorem QjO (A:Nat):A < (isq A+1)*(isq A+1):=(Classical.choose_spec (Qau A)).2
theorem isq_at {A R:Nat} (h1:R*R≤A) (h2:A < (R+1)*(R+1)):R=isq A:=QeL h1 h2 (QjH A) (QjO A)
def dg (n i:Nat):Nat:=i / n+if i / n < i % n then 1 else 0
end Go.Bx

/- Squares and squarefree numbers. No condition. -/
namespace Go.Fq
theorem QcW {x y:Nat} (hx:0 < x) (h:∀ q,Prm q→q ∣ x→¬ q ∣ y):Nat.Coprime x y:=by
 apply Classical.byContradiction
 intro hn
 have h0:0 < Nat.gcd x y:=Nat.gcd_pos_of_pos_left y hx
 have h1:Nat.gcd x y≠1:=hn
 obtain ⟨q,hq,hd⟩:=Qdd (Nat.gcd x y) (by omega)
 exact h q hq (Nat.dvd_trans hd (Nat.gcd_dvd_left x y)) (Nat.dvd_trans hd (Nat.gcd_dvd_right x y))
theorem Qcx {u v z:Nat} (h:u*v=z*z) (hc:Nat.Coprime u v):∃ w,u=w*w:=by
 refine ⟨Nat.gcd u z,?_⟩
 have h1:(u ^ 2).gcd (z ^ 2)=u.gcd z ^ 2:=Nat.pow_gcd_pow
 rw [Nat.pow_two,Nat.pow_two,Nat.pow_two,← h,Nat.gcd_mul_left,show Nat.gcd u v=1 from hc,Nat.mul_one] at h1
 exact h1
def Sqf (n:Nat):Prop:=0 < n∧∀ d,d*d ∣ n→d=1
theorem sqf_one:Sqf 1:=⟨Nat.one_pos,fun d h=>by
 have:=Nat.le_of_dvd Nat.one_pos h
 have h2:d≠0:=fun e=>by subst e; have:=Nat.eq_zero_of_zero_dvd h; omega
 rcases Nat.lt_or_ge d 2 with h3 | h3
 ·omega
 ·have:=Nat.mul_le_mul h3 h3; omega⟩
theorem Sqf.of_dvd {a b:Nat} (h:Sqf b) (hd:a ∣ b):Sqf a:=⟨Nat.pos_of_dvd_of_pos hd h.1,fun d hk=>h.2 d (Nat.dvd_trans hk hd)⟩
theorem Qcy {a b z:Nat} (ha:Sqf a) (hb:Sqf b) (h:a*b=z*z):a=b:=by
 have hg:0 < Nat.gcd a b:=Nat.gcd_pos_of_pos_left b ha.1
 have hc:=Nat.coprime_div_gcd_div_gcd (m:=a) (n:=b) hg
 obtain ⟨g,hge⟩:∃ g,g=Nat.gcd a b:=⟨_,rfl⟩
 rw [← hge] at hg hc
 obtain ⟨u,hu⟩:g ∣ a:=hge ▸ Nat.gcd_dvd_left a b
 obtain ⟨v,hv⟩:g ∣ b:=hge ▸ Nat.gcd_dvd_right a b
 have hu2:a / g=u:=by rw [hu,Nat.mul_div_cancel_left _ hg]
 have hv2:b / g=v:=by rw [hv,Nat.mul_div_cancel_left _ hg]
 rw [hu2,hv2] at hc
 have hz:g ∣ z:=by
  have:g ^ 2 ∣ z ^ 2:=by
   rw [Nat.pow_two,Nat.pow_two,← h,hu,hv]
   exact ⟨u*v,by simp only [Nat.mul_left_comm,Nat.mul_comm]⟩
  exact (Nat.pow_dvd_pow_iff (by omega)).1 this
 obtain ⟨t,ht⟩:=hz
 have huv:u*v=t*t:=by
  have e:(g*g)*(u*v)=(g*g)*(t*t):=by
   have e1:(g*g)*(u*v)=a*b:=by rw [hu,hv]; simp only [Nat.mul_left_comm,Nat.mul_comm]
   have e2:(g*g)*(t*t)=z*z:=by rw [ht]; simp only [Nat.mul_left_comm,Nat.mul_comm]
   rw [e1,e2,h]
  exact Nat.eq_of_mul_eq_mul_left (Nat.mul_pos hg hg) e
 have one:∀ {x y c:Nat},Sqf c→c=g*x→x*y=t*t→Nat.Coprime x y→x=1:=fun hs hx hxy hcc=>by
  obtain ⟨w,hw⟩:=Qcx hxy hcc
  have:=hs.2 w ⟨g,by rw [hx,hw,Nat.mul_comm]⟩
  rw [hw,this]
 have h1:=one ha hu huv hc
 have h2:=one hb hv (by rw [Nat.mul_comm]; exact huv) (Nat.Coprime.symm hc)
 rw [hu,hv,h1,h2]
theorem sqf_dvd:∀ {F:Nat} (a:Nat),Sqf F→(∀ q,Prm q→q ∣ F→q ∣ a)→F ∣ a:=by
 intro F
 induction F using Nat.strongRecOn with
 | ind F ih =>
  intro a hF h
  by_cases e:F=1
  ·subst e; exact Nat.one_dvd a
  ·obtain ⟨q,hq,hd⟩:=Qdd F (by have:=hF.1; omega)
   obtain ⟨G,hG⟩:=hd
   have hG0:0 < G:=by
    rcases Nat.eq_zero_or_pos G with h0 | h0
    ·subst h0; have:=hF.1; omega
    ·exact h0
   have hlt:G < F:=by
    rw [hG]
    have:=Nat.mul_le_mul_right G hq.two
    omega
   have h1:G ∣ a:=ih G hlt a (hF.of_dvd ⟨q,by rw [hG,Nat.mul_comm]⟩) fun r hr hrd=>h r hr (Nat.dvd_trans hrd ⟨q,by rw [hG,Nat.mul_comm]⟩)
   rw [hG]
   refine Nat.Coprime.mul_dvd_of_dvd_of_dvd ?_ (h q hq ⟨G,hG⟩) h1
   refine QcW (by have:=hq.two; omega) fun r hr h2 h3=>?_
   have:=prm_dvd hr hq h2
   subst this
   obtain ⟨k,hk⟩:=h3
   have:=hF.2 r ⟨k,by rw [hG,hk,Nat.mul_assoc]⟩
   have:=hr.two
   omega
theorem Qio {a F left z:Nat} (hF:Sqf F) (hl:∀ q,Prm q→q ∣ F→¬ q ∣ left) (h:a*(F*left)=z*z):F ∣ a:=by
 refine sqf_dvd a hF fun q hq hd=>?_
 obtain ⟨G,hG⟩:=hd
 have h1:q ∣ z:=by
  have:q ∣ z*z:=by rw [← h,hG]; exact ⟨a*(G*left),by simp only [Nat.mul_left_comm,Nat.mul_comm]⟩
  rcases prm_mul hq this with h | h<;>exact h
 obtain ⟨t,ht⟩:=h1
 have hq0:0 < q:=by have:=hq.two; omega
 have h2:a*(G*left)=q*(t*t):=by
  refine Nat.eq_of_mul_eq_mul_left hq0 ?_
  have e1:q*(a*(G*left))=a*(F*left):=by rw [hG]; simp only [Nat.mul_left_comm,Nat.mul_comm]
  have e2:q*(q*(t*t))=z*z:=by rw [ht]; simp only [Nat.mul_left_comm,Nat.mul_comm]
  rw [e1,e2,h]
 have h3:q ∣ a*(G*left):=⟨_,h2⟩
 rcases prm_mul hq h3 with h4 | h4
 ·exact h4
 ·rcases prm_mul hq h4 with h5 | h5
  ·obtain ⟨k,hk⟩:=h5
   have:=hF.2 q ⟨k,by rw [hG,hk,Nat.mul_assoc]⟩
   have:=hq.two
   omega
  ·exact absurd h5 (hl q hq ⟨G,hG⟩)
theorem QgN {a F left z c:Nat} (ha:Sqf a) (hF:Sqf F) (hac:a≤c) (hFc:∀ q,Prm q→q ∣ F→q≤c) (hl:∀ q,Prm q→q≤c→¬ q ∣ left) (hl0:0 < left) (h:a*(F*left)=z*z):a=F∧∃ w,left=w*w:=by
 have hcop:Nat.Coprime left (a*F):=QcW hl0 fun q hq h1 h2=>by
  refine hl q hq ?_ h1
  rcases prm_mul hq h2 with h3 | h3
  ·exact Nat.le_trans (Nat.le_of_dvd ha.1 h3) hac
  ·exact hFc q hq h3
 have h1:left*(a*F)=z*z:=by rw [← h]; simp only [Nat.mul_left_comm,Nat.mul_comm]
 obtain ⟨w,hw⟩:=Qcx h1 hcop
 obtain ⟨w2,hw2⟩:=Qcx (u:=a*F) (v:=left) (z:=z) (by rw [Nat.mul_comm]; exact h1) (Nat.Coprime.symm hcop)
 exact ⟨Qcy ha hF hw2,w,hw⟩
theorem Sqf.mul {F p:Nat} (h:Sqf F) (hp:Prm p) (hn:¬ p ∣ F):Sqf (F*p):=by
 refine ⟨Nat.mul_pos h.1 (by have:=hp.two; omega),fun d hd=>?_⟩
 have h1:¬ p ∣ d:=fun ⟨k,hk⟩=>by
  have h2:p*p ∣ F*p:=Nat.dvd_trans ⟨k*k,by rw [hk]; simp only [Nat.mul_left_comm,Nat.mul_comm]⟩ hd
  exact hn (Nat.dvd_of_mul_dvd_mul_right (by have:=hp.two; omega) h2)
 refine h.2 d (Nat.Coprime.dvd_of_dvd_mul_right (n:=p) ?_ hd)
 refine Nat.Coprime.symm (QcW (by have:=hp.two; omega) fun q hq h2 h3=>?_)
 have:=prm_dvd hq hp h2
 subst this
 rcases prm_mul hq h3 with h4 | h4<;>exact h1 h4
end Go.Fq

/- Levels and discriminants of even forms: denominators, squarefree parts. No condition. -/
namespace Go.Fq
theorem den_one {x:Rat} {n:Int}:((n:Rat)*x).den=1↔(x.den:Int) ∣ n:=by
 have hd0:(x.den:Int)≠0:=by have:=x.den_pos; omega
 have hx:x=Rat.divInt x.num (x.den:Int):=(Rat.num_divInt_den x).symm
 constructor
 ·intro h
  have h1:(n:Rat)*x=((((n:Rat)*x).num:Int):Rat):=Rat.ext (Rat.num_intCast _).symm (h.trans (Rat.den_intCast _).symm)
  obtain ⟨m,hm⟩:∃ m:Int,m=((n:Rat)*x).num:=⟨_,rfl⟩
  rw [← hm] at h1
  have h2:n*x.num=m*(x.den:Int):=by
   have h3:(n:Rat)*((x.num:Rat) / ((x.den:Int):Rat))=(m:Rat):=by rw [← Rat.divInt_eq_div,← hx]; exact h1
   have hq:(((x.den:Int)):Rat)≠0:=fun e=>hd0 (Rat.intCast_inj.1 (e.trans (show (0:Rat)=((0:Int):Rat) from rfl)))
   have h4:(n:Rat)*(x.num:Rat)=(m:Rat)*(((x.den:Int)):Rat):=by
    rw [← h3,Rat.div_def,Rat.mul_assoc,Rat.mul_assoc,Rat.inv_mul_cancel _ hq,Rat.mul_one]
   rw [← Rat.intCast_mul,← Rat.intCast_mul] at h4
   exact Rat.intCast_inj.1 h4
  have hc:Nat.Coprime x.den x.num.natAbs:=(Nat.coprime_comm.1 x.reduced)
  have h5:x.den ∣ n.natAbs*x.num.natAbs:=by
   rw [← Int.natAbs_mul,h2,Int.natAbs_mul,Int.natAbs_natCast]
   exact Nat.dvd_mul_left ..
  have h6:=Nat.Coprime.dvd_of_dvd_mul_right hc h5
  exact Int.dvd_natAbs.1 (Int.natCast_dvd_natCast.2 h6)
 ·intro ⟨t,ht⟩
  have e:(n:Rat)*x=((t*x.num:Int):Rat):=by
   have hq:(((x.den:Int)):Rat)≠0:=fun e=>hd0 (Rat.intCast_inj.1 (e.trans (show (0:Rat)=((0:Int):Rat) from rfl)))
   have h1:x=(x.num:Rat)*((x.den:Int):Rat)⁻¹:=by rw [← Rat.div_def,← Rat.divInt_eq_div]; exact hx
   have key:∀ d m u:Rat,d≠0→d*u*(m*d⁻¹)=u*m:=fun d m u h=>by
    rw [Rat.mul_comm d u,Rat.mul_assoc,Rat.mul_comm m,← Rat.mul_assoc d,Rat.mul_inv_cancel _ h,Rat.one_mul]
   rw [Rat.intCast_mul,ht,Rat.intCast_mul]
   exact (congrArg (fun y=>((x.den:Int):Rat)*(t:Rat)*y) h1).trans (key _ _ _ hq)
  rw [e]
  exact Rat.den_intCast _
def lv (d:Nat→Nat):Nat→Nat
 | 0=>1
 | j+1=>lv d j*(d j / Nat.gcd (lv d j) (d j))
theorem Qjq (d:Nat→Nat) (j:Nat):lv d (j+1)=Nat.lcm (lv d j) (d j):=by
 show lv d j*(d j / Nat.gcd (lv d j) (d j))=lv d j*d j / Nat.gcd (lv d j) (d j)
 rw [Nat.mul_div_assoc _ (Nat.gcd_dvd_right ..)]
theorem lv_dvd {d:Nat→Nat} {n:Nat}:∀ N:Nat,lv d N ∣ n↔∀ j,j < N→d j ∣ n
 | 0=>⟨fun _ j h=>absurd h (Nat.not_lt_zero j),fun _=>Nat.one_dvd n⟩
 | N+1=>by
  rw [Qjq]
  constructor
  ·intro h j hj
   rcases Nat.lt_or_eq_of_le (Nat.le_of_lt_succ hj) with h1 | h1
   ·exact (lv_dvd N).1 (Nat.dvd_trans (Nat.dvd_lcm_left ..) h) j h1
   ·subst h1; exact Nat.dvd_trans (Nat.dvd_lcm_right ..) h
  ·intro h
   exact Nat.lcm_dvd ((lv_dvd N).2 fun j hj=>h j (by omega)) (h N (by omega))
theorem QcC {x w z:Nat} (hw:0 < w) (h:x*(w*w)=z*z):∃ r,x=r*r:=by
 have h1:w ^ 2 ∣ z ^ 2:=by rw [Nat.pow_two,Nat.pow_two,← h]; exact Nat.dvd_mul_left ..
 obtain ⟨r,hr⟩:=(Nat.pow_dvd_pow_iff (by omega)).1 h1
 refine ⟨r,Nat.eq_of_mul_eq_mul_right (Nat.mul_pos hw hw) ?_⟩
 rw [h,hr]
 simp only [Nat.mul_left_comm,Nat.mul_comm]
def Cnd (D:Nat) (e s:Int) (d:Nat):Prop:=((s*d) % 4=1∧Sqf d∨(s*d) % 4=0∧(s*d / 4) % 4 > 1∧Sqf (d / 4))∧s=e∧∃ z,D*d=z*z
theorem Cnd.part {D d:Nat} {e s:Int} (he:e=1∨e = -1) (h:Cnd D e s d):∃ a,Sqf a∧a≤d∧(d=a∧(e*a) % 4=1∨d=4*a∧(e*a) % 4 > 1)∧∃ z,a*D=z*z:=by
 obtain ⟨h1,rfl,z,hz⟩:=h
 rcases h1 with ⟨h2,h3⟩ | ⟨h2,h3,h4⟩
 ·exact ⟨d,h3,Nat.le_refl d,.inl ⟨rfl,h2⟩,z,by rw [Nat.mul_comm]; exact hz⟩
 ·have hd:d % 4=0:=by rcases he with rfl | rfl<;>omega
  obtain ⟨a,ha⟩:∃ a,d=4*a:=⟨d / 4,by omega⟩
  subst ha
  rw [show 4*a / 4=a by omega] at h4
  have h5:s*((4*a:Nat):Int) / 4=s*a:=by rcases he with rfl | rfl<;>omega
  rw [h5] at h3
  obtain ⟨r,hr⟩:=QcC (x:=D*a) (w:=2) (z:=z) (by decide) (by rw [← hz]; simp only [Nat.mul_comm,Nat.mul_assoc])
  exact ⟨a,h4,by omega,.inr ⟨rfl,h3⟩,r,by rw [Nat.mul_comm]; exact hr⟩
theorem disc_none {D F w left c d:Nat} {e s:Int} (he:e=1∨e = -1) (hD:D=F*(w*w)*left) (hw:0 < w) (hF:Sqf F) (hl:∀ q,Prm q→q ∣ F→¬ q ∣ left) (hc:c < F) (hd:d≤c):¬ Cnd D e s d:=by
 intro h
 obtain ⟨a,ha,had,-,z,hz⟩:=h.part he
 obtain ⟨r,hr⟩:=QcC (x:=a*(F*left)) (w:=w) (z:=z) hw (by rw [← hz,hD]; simp only [Nat.mul_left_comm,Nat.mul_comm])
 have:=Nat.le_of_dvd ha.1 (Qio hF hl hr)
 omega
theorem disc_some {D F w left c d:Nat} {e s:Int} (he:e=1∨e = -1) (hD:D=F*(w*w)*left) (hw:0 < w) (hF:Sqf F) (hFc:∀ q,Prm q→q ∣ F→q≤c) (hl:∀ q,Prm q→q≤c→¬ q ∣ left) (hl0:0 < left) (hd:d≤c) :
  Cnd D e s d↔(∃ v,left=v*v)∧s=e∧d=if (e*F) % 4=1 then F else 4*F:=by
 constructor
 ·intro h
  obtain ⟨a,ha,had,hcase,z,hz⟩:=h.part he
  obtain ⟨r,hr⟩:=QcC (x:=a*(F*left)) (w:=w) (z:=z) hw (by rw [← hz,hD]; simp only [Nat.mul_left_comm,Nat.mul_comm])
  obtain ⟨rfl,hv⟩:=QgN ha hF (by omega) hFc hl hl0 hr
  refine ⟨hv,h.2.1,?_⟩
  rcases hcase with ⟨h1,h2⟩ | ⟨h1,h2⟩
  ·rw [if_pos h2]; exact h1
  ·rw [if_neg (by omega)]; exact h1
 ·rintro ⟨⟨v,rfl⟩,rfl,rfl⟩
  have h4:F % 4≠0:=fun h=>by
   have:=hF.2 2 ⟨F / 4,by omega⟩
   omega
  by_cases h1:(s*F) % 4=1
  ·rw [if_pos h1]
   exact ⟨.inl ⟨h1,hF⟩,rfl,F*w*v,by rw [hD]; simp only [Nat.mul_left_comm,Nat.mul_comm]⟩
  ·rw [if_neg h1]
   refine ⟨.inr ⟨by rcases he with rfl | rfl<;>omega,?_,by rw [show 4*F / 4=F by omega]; exact hF⟩,rfl,2*(F*w*v),by rw [hD,show (4:Nat)=2*2 from rfl]; simp only [Nat.mul_left_comm,Nat.mul_comm,Nat.mul_assoc]⟩
   have h5:s*((4*F:Nat):Int) / 4=s*F:=by rcases he with rfl | rfl<;>omega
   rw [h5]
   rcases he with rfl | rfl<;>omega
end Go.Fq

/- The adjugate by minors. No condition. -/
namespace Go.Lr
open Go.La (Mx setr Ql setr_ne swap swap_at swap_ne skip skip_lt)
variable {K:Type} [Rg K]
def top (A:Mx K) (k:Nat):Mx K:=fun i=>if i=0 then A k else A (skip k (i - 1))
theorem yr:∀ k:Nat,(sgn k:Int)=if k % 2=1 then -1 else 1
 | 0=>rfl
 | k+1=>by
  show -(sgn k:Int)=_
  rw [yr k]
  by_cases h:k % 2=1
  ·rw [if_pos h,if_neg (by omega)]; rfl
  ·rw [if_neg h,if_pos (by omega)]
end Go.Lr

/- Even forms: a change of basis. No condition. -/
namespace Go.Bx
open Go.La (Mx mm tr idm)
theorem QbP:∀ (n:Nat) (M:Mx Int),(∀ i j,i < n→j < n→M i j=M j i)→(∀ i,i < n→∃ z,M i i=2*z)→∃ z,(Lr.sm n fun i=>Lr.sm n fun j=>M i j)=2*z
 | 0,_,_,_=>⟨0,rfl⟩
 | n+1,M,hs,hd=>by
  obtain ⟨z,hz⟩:=QbP n M (fun i j hi hj=>hs i j (by omega) (by omega)) fun i hi=>hd i (by omega)
  obtain ⟨w,hw⟩:=hd n (Nat.lt_succ_self n)
  have e1:(Lr.sm n fun i=>Lr.sm (n+1) fun j=>M i j)=(Lr.sm n fun i=>Lr.sm n fun j=>M i j)+Lr.sm n fun i=>M i n:=by
   rw [← Lr.sm_add]; rfl
  have e2:(Lr.sm (n+1) fun j=>M n j)=(Lr.sm n fun i=>M i n)+M n n:=by
   show Lr.sm n _+M n n=_
   rw [Lr.sm_congr fun j hj=>hs n j (by omega) (by omega)]
  refine ⟨z+(Lr.sm n fun i=>M i n)+w,?_⟩
  show (Lr.sm n fun i=>Lr.sm (n+1) fun j=>M i j)+Lr.sm (n+1) (fun j=>M n j)=_
  rw [e1,e2,hz,hw]
  omega
theorem yX {n:Nat} {M:Mx Int} (hs:∀ i j,i < n→j < n→M i j=M j i) (hd:∀ i,i < n→∃ z,M i i=2*z) (v:Nat→Int):∃ z,(Lr.sm n fun i=>Lr.sm n fun j=>v i*M i j*v j)=2*z:=by
 refine QbP n (fun i j=>v i*M i j*v j) (fun i j hi hj=>?_) fun i hi=>?_
 ·show v i*M i j*v j=v j*M j i*v i
  rw [hs i j hi hj,Int.mul_assoc,Int.mul_assoc,Int.mul_left_comm,Int.mul_comm (v i),Int.mul_left_comm,Int.mul_left_comm (v j)]
 ·obtain ⟨z,hz⟩:=hd i hi
  refine ⟨v i*z*v i,?_⟩
  show v i*M i i*v i=_
  rw [hz,Int.mul_left_comm,Int.mul_assoc]
end Go.Bx

/- Sums of two and of four squares up to 30, counted in boxes. -/
namespace Go.Bx
def sq (x:Int):Nat:=x.natAbs*x.natAbs
def s2 (β k:Nat):Nat:=sq (vec (fun _=>β) 2 k 0)+sq (vec (fun _=>β) 2 k 1)
def s4 (β k:Nat):Nat:=sq (vec (fun _=>β) 4 k 0)+sq (vec (fun _=>β) 4 k 1)+(sq (vec (fun _=>β) 4 k 2)+sq (vec (fun _=>β) 4 k 3))
def chi (d:Nat):Int:=if d % 4=1 then 1 else if d % 4=3 then -1 else 0
def two (n:Nat):Nat→Int
 | 0=>0
 | d+1=>if n % (d+1)=0 then two n d+4*chi (d+1) else two n d
def four (n:Nat):Nat→Int
 | 0=>0
 | d+1=>if n % (d+1)=0∧(d+1) % 4≠0 then four n d+8*((d+1:Nat):Int) else four n d
def rt (n:Nat):Nat:=if n < 1 then 0 else if n < 4 then 1 else if n < 9 then 2 else if n < 16 then 3 else if n < 25 then 4 else 5
def chk2:Bool:=(List.range 31).all fun n=>n == 0 || decide (((cnt (all (fun _=>rt n) 2) (fun k=>s2 (rt n) k == n):Nat):Int)=two n n)
def chk4:Bool:=(List.range 31).all fun n=>n == 0 || decide (((sumn (n+1) fun j=>cnt (all (fun _=>rt n) 2) (fun q=>s2 (rt n) q == j)*cnt (all (fun _=>rt n) 2) (fun r=>s2 (rt n) r == n - j):Nat):Int)=four n n)
end Go.Bx
