/- Texts of this seat's own, merged: each begins with its own remark. -/
import Derived.Test.YtnjpkncacddplaaGreatDoorM48
import Derived.Test.YtnjpkncacddplaaGreatDoorM19
import Derived.Test.YtnjpkncacddplaaGreatDoorM40
import Derived.Test.YtnjpkncacddplaaGreatDoorM1
/- Determinants of integers without fractions (Bareiss). No condition. -/
namespace Go.Bz
open Go.La (Fld Mx setr Qg Qf swap swap_at swap_ne)
section
variable {K:Type} [Fld K]
theorem det_uni {n:Nat} {u a:Mx K} (h:∀ i,i < n→∃ c:Nat→K,∀ j,j < n→u i j=a i j+La.sm i fun t=>c t*u t j):La.det n u=La.det n a:=by
 have main:∀ s,s≤n→La.det n (fun i=>if i < s then u i else a i)=La.det n a:=by
  intro s
  induction s with
  | zero=>exact fun _=>La.det_congr fun i j _ _=>by rw [if_neg (Nat.not_lt_zero i)]
  | succ s ih =>
   intro hs
   rw [← ih (by omega)]
   obtain ⟨c,hc⟩:=h s (by omega)
   let M:Mx K:=fun i=>if i < s then u i else a i
   have hMs:M s=a s:=if_neg (Nat.lt_irrefl s)
   have key:∀ t,t≤s→La.det n (setr M s fun j=>a s j+La.sm t fun t=>c t*u t j)=La.det n M:=by
    intro t
    induction t with
    | zero =>
     intro _
     refine La.det_congr fun i j _ _=>?_
     by_cases e:i=s
     ·subst e; rw [Qg,hMs]; exact La.add_zero _
     ·rw [Qf _ _ e]
    | succ t iht =>
     intro ht
     rw [← iht (by omega),← (La.det_alt n).comb (p:=s) (q:=t) (by omega) (by omega) (by omega) (c t) (setr M s fun j=>a s j+La.sm t fun t=>c t*u t j)]
     refine La.det_congr fun i j _ _=>?_
     by_cases e:i=s
     ·subst e
      rw [Qg,Qg,Qg,Qf _ _ (by omega)]
      have:M t=u t:=if_pos (by omega)
      rw [this,La.add_assoc]; rfl
     ·rw [Qf _ _ e,Qf _ _ e,Qf _ _ e]
   rw [← show La.det n M=La.det n (fun i=>if i < s then u i else a i) from rfl,← key s (Nat.le_refl s)]
   refine La.det_congr fun i j _ hj=>?_
   by_cases e:i=s
   ·subst e
    rw [Qg,if_pos (Nat.lt_succ_self i)]
    exact hc j hj
   ·rw [Qf _ _ e]
    show (if i < s+1 then u i else a i) j=(if i < s then u i else a i) j
    by_cases e2:i < s
    ·rw [if_pos e2,if_pos (by omega)]
    ·rw [if_neg e2,if_neg (by omega)]
 rw [← main n (Nat.le_refl n)]
 exact La.det_congr fun i j hi _=>by rw [if_pos hi]
theorem Qgp {m n:Nat} (h:m≤n) (c f:Nat→K):La.sm n (fun t=>(if t < m then c t else 0)*f t)=La.sm m fun t=>c t*f t:=by
 obtain ⟨d,rfl⟩:∃ d,n=m+d:=⟨n - m,by omega⟩
 rw [La.sm_app,La.sm_zero (n:=d) fun t _=>by rw [if_neg (by omega),La.zero_mul],La.add_zero]
 exact La.sm_congr fun t ht=>by rw [if_pos ht]
def dg (u:Mx K):Nat→K
 | 0=>1
 | k+1=>dg u k*u k k
theorem qE:∀ {n:Nat} {u:Mx K},(∀ i j,i < n→j < i→u i j=0)→La.det n u=dg u n
 | 0,_,_=>rfl
 | n+1,u,h=>by
  rw [← Lr.det_la,Lr.det_last fun j hj=>h n j (by omega) hj,Lr.det_la,qE fun i j hi hj=>h i j (by omega) hj]
  rfl
theorem VW {u w:Mx K}:∀ {k:Nat},(∀ i,i < k→u i i=w i i)→dg u k=dg w k
 | 0,_=>rfl
 | k+1,h=>by show dg u k*u k k=dg w k*w k k; rw [VW fun i hi=>h i (by omega),h k (by omega)]
end
structure Br (n:Nat) (A:Mx Int) (k:Nat) (A':Mx Int) (u:Mx Rat) (a:Mx Int) (last sign:Int):Prop where
 ne:dg u k≠0
 last:(last:Rat)=dg u k
 sg:La.det n (fun i j=>(A i j:Rat))=(sign:Rat)*La.det n (fun i j=>(A' i j:Rat))
 tri:∀ i j,i < n→j < i→j < k→u i j=0
 comb:∀ i,i < n→∃ c:Nat→Rat,∀ j,j < n→u i j=(A' i j:Rat)+La.sm (min i k) fun t=>c t*u t j
 val:∀ i j,k≤i→i < n→k≤j→j < n→(a i j:Rat)=dg u k*u i j
theorem Br.start {n:Nat} {A:Mx Int}:Br n A 0 A (fun i j=>(A i j:Rat)) A 1 1 where
 ne:=La.one_ne
 last:=rfl
 sg:=by rw [show ((1:Int):Rat)=1 from rfl,Rat.one_mul]
 tri i j _ _ h:=absurd h (Nat.not_lt_zero j)
 comb i _:=⟨fun _=>0,fun j _=>by rw [Nat.min_zero]; exact (Rat.add_zero _).symm⟩
 val i j _ _ _ _:=by show _=1*_; rw [Rat.one_mul]
theorem Br.swap {n k p:Nat} {A A' a:Mx Int} {u:Mx Rat} {last sign:Int} (h:Br n A k A' u a last sign) (hk:k < p) (hp:p < n):Br n A k (La.swap A' p k) (La.swap u p k) (La.swap a p k) last (-sign):=by
 have hu:∀ t,t < k→La.swap u p k t=u t:=fun t ht=>La.swap_ne (by omega) (by omega)
 have hdg:dg (La.swap u p k) k=dg u k:=VW fun i hi=>by rw [hu i hi]
 refine ⟨by rw [hdg]; exact h.ne,by rw [hdg]; exact h.last,?_,fun i j hi hj hjk=>?_,fun i hi=>?_,fun i j h1 h2 h3 h4=>?_⟩
 ·rw [h.sg]
  have e:La.det n (fun i j=>((La.swap A' p k i j:Int):Rat)) = -La.det n (fun i j=>(A' i j:Rat)):=by
   rw [← (La.det_alt n).swap hp (show k < n by omega) (by omega)]
   refine La.det_congr fun i j _ _=>?_
   unfold La.swap
   split
   ·rfl
   ·split<;>rfl
  rw [e,Rat.intCast_neg]
  grind
 ·by_cases e1:i=p
  ·subst e1; rw [La.swap_at.1]; exact h.tri k j (by omega) (by omega) hjk
  ·by_cases e2:i=k
   ·subst e2; rw [La.swap_at.2]; exact h.tri p j hp (by omega) hjk
   ·rw [La.swap_ne e1 e2]; exact h.tri i j hi hj hjk
 ·have key:∀ b,b < n→min b k=min i k→La.swap u p k i=u b→La.swap A' p k i=A' b→∃ c:Nat→Rat,∀ j,j < n→La.swap u p k i j=((La.swap A' p k i j:Int):Rat)+La.sm (min i k) fun t=>c t*La.swap u p k t j:=fun b hb hm e1 e2=>by
   obtain ⟨c,hc⟩:=h.comb b hb
   refine ⟨c,fun j hj=>?_⟩
   rw [e1,e2,hc j hj,hm]
   congr 1
   exact La.sm_congr fun t ht=>by rw [hu t (by omega)]
  by_cases e1:i=p
  ·subst e1; exact key k (by omega) (by omega) La.swap_at.1 La.swap_at.1
  ·by_cases e2:i=k
   ·subst e2; exact key p hp (by omega) La.swap_at.2 La.swap_at.2
   ·exact key i hi rfl (La.swap_ne e1 e2) (La.swap_ne e1 e2)
 ·rw [hdg]
  by_cases e1:i=p
  ·subst e1; rw [La.swap_at.1,La.swap_at.1]; exact h.val k j (Nat.le_refl k) (by omega) h3 h4
  ·by_cases e2:i=k
   ·subst e2; rw [La.swap_at.2,La.swap_at.2]; exact h.val p j (by omega) hp h3 h4
   ·rw [La.swap_ne e1 e2,La.swap_ne e1 e2]; exact h.val i j h1 h2 h3 h4
theorem Br.step {n k:Nat} {A A' a:Mx Int} {u:Mx Rat} {last sign:Int} (h:Br n A k A' u a last sign) (hk:k < n) (h0:a k k≠0):∃ b:Mx Int,
  (∀ i j,k < i→i < n→k < j→j < n→a i j*a k k - a i k*a k j=b i j*last) ∧
   ∀ a':Mx Int,(∀ i j,k < i→i < n→k < j→j < n→a' i j=b i j)→Br n A (k+1) A' (fun i j=>if k < i then u i j - u i k / u k k*u k j else u i j) a' (a k k) sign:=by
 let w:Mx Rat:=fun i j=>if k < i then u i j - u i k / u k k*u k j else u i j
 have hw:∀ i,i≤k→w i=u i:=fun i hi=>funext fun j=>if_neg (by omega)
 have hwg:∀ i j,k < i→w i j=u i j - u i k / u k k*u k j:=fun i j hi=>if_pos hi
 have hkk:=h.val k k (Nat.le_refl k) hk (Nat.le_refl k) hk
 have hu0:u k k≠0:=fun e=>h0 (by
  rw [e,Rat.mul_zero] at hkk
  exact Rat.intCast_eq_zero_iff.1 hkk)
 have hdw:∀ t,t≤k+1→dg w t=dg u t:=fun t ht=>VW fun i hi=>by rw [hw i (by omega)]
 have hdk:dg u (k+1)=dg u k*u k k:=rfl
 have hlast:(a k k:Rat)=dg w (k+1):=by rw [hdw _ (Nat.le_refl _),hdk]; exact hkk
 have htri:∀ i j,i < n→j < i→j < k+1→w i j=0:=fun i j hi hj hjk=>by
  by_cases e:k < i
  ·rw [hwg i j e]
   by_cases e2:j=k
   ·subst e2
    rw [Rat.div_mul_cancel hu0,Rat.sub_self]
   ·rw [h.tri i j hi hj (by omega),h.tri k j hk (by omega) (by omega),Rat.mul_zero,Rat.sub_self]
  ·rw [hw i (by omega)]; exact h.tri i j hi hj (by omega)
 have hcomb:∀ i,i < n→∃ c:Nat→Rat,∀ j,j < n→w i j=(A' i j:Rat)+La.sm (min i (k+1)) fun t=>c t*w t j:=fun i hi=>by
  obtain ⟨c,hc⟩:=h.comb i hi
  by_cases e:k < i
  ·refine ⟨fun t=>if t < k then c t else -(u i k / u k k),fun j hj=>?_⟩
   rw [hwg i j e,hc j hj,show min i (k+1)=k+1 by omega,show min i k=k by omega]
   show _=(A' i j:Rat)+((La.sm k fun t=>(if t < k then c t else -(u i k / u k k))*w t j)+(if k < k then c k else -(u i k / u k k))*w k j)
   rw [if_neg (Nat.lt_irrefl k),hw k (Nat.le_refl k),La.sm_congr (f:=fun t=>(if t < k then c t else -(u i k / u k k))*w t j) (g:=fun t=>c t*u t j) fun t ht=>by rw [if_pos ht,hw t (by omega)]]
   grind
  ·refine ⟨c,fun j hj=>?_⟩
   rw [hw i (by omega),hc j hj,show min i (k+1)=i by omega,show min i k=i by omega]
   congr 1
   exact La.sm_congr fun t ht=>by rw [hw t (by omega)]
 -- the bordered minors
 have hb:∀ i j,∃ z:Int,k < i→i < n→k < j→j < n→(z:Rat)=dg w (k+1)*w i j:=fun i j=>by
  by_cases e:k < i∧i < n∧k < j∧j < n
  ·obtain ⟨h1,h2,h3,h4⟩:=e
   let ri:Nat→Nat:=fun s=>if s≤k then s else i
   let cj:Nat→Nat:=fun s=>if s≤k then s else j
   have hri:∀ s,s < k+2→ri s < n:=fun s _=>by show (if s≤k then s else i) < n; split<;>omega
   have hcj:∀ s,s < k+2→cj s < n:=fun s _=>by show (if s≤k then s else j) < n; split<;>omega
   have hd1:La.det (k+2) (fun s t=>w (ri s) (cj t))=La.det (k+2) fun s t=>(A' (ri s) (cj t):Rat):=det_uni fun s hs=>by
    obtain ⟨c,hc⟩:=hcomb (ri s) (hri s hs)
    refine ⟨c,fun t ht=>?_⟩
    rw [hc _ (hcj t ht)]
    congr 1
    have e3:min (ri s) (k+1)=s:=by
     show min (if s≤k then s else i) (k+1)=s
     split<;>omega
    rw [e3]
    refine La.sm_congr fun x hx=>?_
    have:ri x=x:=if_pos (by omega)
    rw [this]
   have hd2:La.det (k+2) (fun s t=>w (ri s) (cj t))=dg w (k+1)*w i j:=by
    rw [qE fun s t hs ht=>by
     have e4:cj t=t:=if_pos (by omega)
     rw [e4]
     have e5:s≤ri s:=by show s≤if s≤k then s else i; split<;>omega
     exact htri _ _ (hri s hs) (by omega) (by omega)]
    show dg (fun s t=>w (ri s) (cj t)) (k+1)*w (ri (k+1)) (cj (k+1))=_
    rw [show ri (k+1)=i from if_neg (by omega),show cj (k+1)=j from if_neg (by omega)]
    congr 1
    refine VW fun x hx=>?_
    rw [show ri x=x from if_pos (by omega),show cj x=x from if_pos (by omega)]
   have hd3:=Fq.hom_q.det (k+2) fun s t=>A' (ri s) (cj t)
   refine ⟨Lr.det (k+2) fun s t=>A' (ri s) (cj t),fun _ _ _ _=>?_⟩
   rw [← hd2,hd1,← Lr.det_la]
   exact hd3
  ·exact ⟨0,fun h1 h2 h3 h4=>absurd ⟨h1,h2,h3,h4⟩ e⟩
 let b:Mx Int:=fun i j=>Classical.choose (hb i j)
 have hbs:∀ i j,k < i→i < n→k < j→j < n→(b i j:Rat)=dg w (k+1)*w i j:=fun i j=>Classical.choose_spec (hb i j)
 refine ⟨b,fun i j h1 h2 h3 h4=>?_,fun a' ha'=>⟨by rw [← hlast]; exact fun e=>h0 (Rat.intCast_eq_zero_iff.1 e),hlast,h.sg,htri,hcomb,fun i j h1 h2 h3 h4=>by rw [ha' i j (by omega) h2 (by omega) h4]; exact hbs i j (by omega) h2 (by omega) h4⟩⟩
 refine Rat.intCast_inj.1 ?_
 rw [Rat.intCast_sub,Rat.intCast_mul,Rat.intCast_mul,Rat.intCast_mul,hbs i j h1 h2 h3 h4,hwg i j h1,h.val i j (by omega) h2 (by omega) h4,h.val i k (by omega) h2 (Nat.le_refl k) hk,h.val k j (Nat.le_refl k) hk (by omega) h4,hkk,h.last,hdw _ (Nat.le_refl _),hdk]
 have e6:u i k / u k k*u k k=u i k:=Rat.div_mul_cancel hu0
 grind
theorem Br.done {n:Nat} {A A' a:Mx Int} {u:Mx Rat} {last sign:Int} (h:Br n A n A' u a last sign):Lr.det n A=sign*last:=by
 refine Rat.intCast_inj.1 ?_
 have h1:=Fq.hom_q.det n A
 rw [Lr.det_la] at h1
 rw [h1,h.sg,Rat.intCast_mul,h.last]
 congr 1
 rw [← qE fun i j hi hj=>h.tri i j hi hj (by omega)]
 refine (det_uni fun i hi=>?_).symm
 obtain ⟨c,hc⟩:=h.comb i hi
 exact ⟨c,fun j hj=>by rw [hc j hj,show min i n=i by omega]⟩
theorem Br.none {n k:Nat} {A A' a:Mx Int} {u:Mx Rat} {last sign:Int} (h:Br n A k A' u a last sign) (hk:k < n) (hz:∀ i,k≤i→i < n→a i k=0):Lr.det n A=0:=by
 have hu:∀ i,k≤i→i < n→u i k=0:=fun i h1 h2=>by
  have:=h.val i k h1 h2 (Nat.le_refl k) hk
  rw [hz i h1 h2] at this
  rcases La.mul_eq_zero this.symm with e | e
  ·exact absurd e h.ne
  ·exact e
 have h2:La.det n u=0:=by
  obtain ⟨x,⟨t,ht,hx0⟩,hx⟩:=La.kernel_ne k (k+1) u (Nat.lt_succ_self k)
  apply Classical.byContradiction
  intro hne
  rw [← La.det_tr] at hne
  have h3:=Fq.det_indep hne (x:=fun i=>if i < k+1 then x i else 0) fun j hj=>?_
  ·have:=h3 t (by omega)
   rw [if_pos ht] at this
   exact hx0 this
  ·have e:n=(k+1)+(n - (k+1)):=by omega
   rw [e,La.sm_app,La.sm_zero (n:=n - (k+1)) fun i _=>by rw [if_neg (by omega),Rat.zero_mul],Rat.add_zero]
   by_cases e2:j < k
   ·rw [← hx j e2]
    refine La.sm_congr fun i hi=>?_
    rw [if_pos hi,Rat.mul_comm]; rfl
   ·refine La.sm_zero fun i hi=>?_
    rw [if_pos hi]
    show x i*u j i=0
    by_cases e3:i=k
    ·subst e3; rw [hu j (by omega) hj,Rat.mul_zero]
    ·rw [h.tri j i hj (by omega) (by omega),Rat.mul_zero]
 have h1:=Fq.hom_q.det n A
 rw [Lr.det_la] at h1
 have h4:La.det n u=La.det n fun i j=>(A' i j:Rat):=det_uni fun i hi=>by
  obtain ⟨c,hc⟩:=h.comb i hi
  refine ⟨fun t=>if t < min i k then c t else 0,fun j hj=>?_⟩
  rw [hc j hj]
  congr 1
  exact (Qgp (Nat.min_le_left i k) c fun t=>u t j).symm
 have h5:((Lr.det n A:Int):Rat)=0:=by rw [h1,h.sg,← h4,h2,Rat.mul_zero]
 exact Rat.intCast_eq_zero_iff.1 h5
end Go.Bz

/- Positive definite forms: the leading minors are positive. No condition. -/
namespace Go.La
structure Gs (n:Nat) (A:Mx Rat) (k:Nat) (P:Mx Rat):Prop where
 uni:∀ i,i < k→∃ c:Nat→Rat,∀ j,j < n→P i j=idm i j+sm i fun t=>c t*P t j
 sup:∀ i j,i < k→i < j→j < n→P i j=0
 one:∀ i,i < k→P i i=1
 ort:∀ i j,i < k→j < k→i≠j→bl n A (P i) (P j)=0
theorem Gs.zero {n:Nat} {A P:Mx Rat}:Gs n A 0 P:=⟨fun _ h=>absurd h (Nat.not_lt_zero _),fun _ _ h=>absurd h (Nat.not_lt_zero _),fun _ h=>absurd h (Nat.not_lt_zero _),fun _ _ h=>absurd h (Nat.not_lt_zero _)⟩
theorem Gs.next {n k:Nat} {A P:Mx Rat} (hA:∀ i j,i < n→j < n→A i j=A j i) (h:Gs n A k P) (hk:k < n) (hD:∀ t,t < k→bl n A (P t) (P t)≠0):∃ P',Gs n A (k+1) P'∧∀ t,t < k→P' t=P t:=by
 let c:Nat→Rat:=fun t => -(bl n A (idm k) (P t) / bl n A (P t) (P t))
 let v:Nat→Rat:=fun j=>idm k j+sm k fun t=>c t*P t j
 have hv:∀ t,t < k→bl n A v (P t)=0:=fun t ht=>by
  have e1:bl n A v (P t)=bl n A (idm k) (P t)+1*bl n A (fun j=>sm k fun t=>c t*P t j) (P t):=by
   rw [← QK]
   exact bl_congr (fun _ _ _ _=>rfl) (fun j _=>by show _=_+1*_; rw [Rat.one_mul]) fun _ _=>rfl
  rw [e1,VE (T:=P) (r:=k) (c:=c) fun _ _=>rfl,sm_one t ht fun s hs hne=>by rw [h.ort s t hs ht hne,Rat.mul_zero]]
  show _+1*(-(bl n A (idm k) (P t) / bl n A (P t) (P t))*bl n A (P t) (P t))=0
  rw [Rat.neg_mul,Rat.div_mul_cancel (hD t ht)]
  grind
 refine ⟨setr P k v,⟨fun i hi=>?_,fun i j hi hj hjn=>?_,fun i hi=>?_,fun i j hi hj hne=>?_⟩,fun t ht=>Qf _ _ (by omega)⟩
 ·by_cases e:i=k
  ·subst e
   refine ⟨c,fun j _=>?_⟩
   rw [Qg]
   show idm i j+_=_
   congr 1
   exact sm_congr fun t ht=>by rw [Qf _ _ (by omega)]
  ·obtain ⟨c',hc⟩:=h.uni i (by omega)
   refine ⟨c',fun j hj=>?_⟩
   rw [Qf _ _ e,hc j hj]
   congr 1
   exact sm_congr fun t ht=>by rw [Qf _ _ (by omega)]
 ·by_cases e:i=k
  ·subst e
   rw [Qg]
   show idm i j+sm i (fun t=>c t*P t j)=0
   rw [show (idm i j:Rat)=0 from if_neg (by omega),sm_zero fun t ht=>by rw [h.sup t j ht (by omega) hjn,Rat.mul_zero]]
   exact Rat.add_zero _
  ·rw [Qf _ _ e]; exact h.sup i j (by omega) hj hjn
 ·by_cases e:i=k
  ·subst e
   rw [Qg]
   show idm i i+sm i (fun t=>c t*P t i)=1
   rw [show (idm i i:Rat)=1 from if_pos rfl,sm_zero fun t ht=>by rw [h.sup t i ht ht hk,Rat.mul_zero]]
   exact Rat.add_zero _
  ·rw [Qf _ _ e]; exact h.one i (by omega)
 ·by_cases e:i=k
  ·subst e
   rw [Qg,Qf _ _ (Ne.symm hne)]
   exact hv j (by omega)
  ·by_cases e2:j=k
   ·subst e2
    rw [Qg,Qf _ _ e,bl_symm hA]
    exact hv i (by omega)
   ·rw [Qf _ _ e,Qf _ _ e2]; exact h.ort i j (by omega) (by omega) hne
theorem Qgd {n m:Nat} {A:Mx Rat} {x y:Nat→Rat} (hm:m≤n) (hx:∀ j,m≤j→j < n→x j=0) (hy:∀ j,m≤j→j < n→y j=0):bl n A x y=bl m A x y:=by
 obtain ⟨d,rfl⟩:∃ d,n=m+d:=⟨n - m,by omega⟩
 unfold bl
 rw [sm_app,sm_zero (n:=d) fun k hk=>by rw [hy (m+k) (by omega) (by omega),Rat.mul_zero],add_zero]
 refine sm_congr fun j _=>?_
 rw [sm_app,sm_zero (n:=d) fun k hk=>by rw [hx (m+k) (by omega) (by omega),Rat.zero_mul],add_zero]
theorem Gs.det {n m:Nat} {A P:Mx Rat} (h:Gs n A m P) (hm:m≤n):La.det m A=pd m fun i=>bl n A (P i) (P i):=by
 have hU:La.det m P=1:=by
  rw [Bz.det_uni (a:=(idm:Mx Rat)) fun i hi=>?_,VB]
  obtain ⟨c,hc⟩:=h.uni i hi
  exact ⟨c,fun j hj=>hc j (by omega)⟩
 have e1:La.det m (mm m (mm m P A) (tr P))=La.det m A:=by
  rw [QdJ,QdJ,det_tr,hU]; grind
 have hz:∀ i,i < m→∀ j,m≤j→j < n→P i j=0:=fun i hi j hj hjn=>h.sup i j hi (by omega) hjn
 have e2:∀ i j,i < m→j < m→mm m (mm m P A) (tr P) i j=bl n A (P i) (P j):=fun i j hi hj=>by
  rw [Qgd hm (hz i hi) (hz j hj)]
  rfl
 rw [← e1,det_congr e2]
 refine Qau fun i j hi hj hne=>?_
 exact h.ort i j hi hj hne
def Pdf (n:Nat) (A:Mx Rat):Prop:=∀ x:Nat→Rat,(∃ j,j < n∧x j≠0)→0 < bl n A x x
end Go.La

/- Squares and squarefree numbers. No condition. -/
namespace Go.Fq
theorem QfX {x y:Nat} (hx:0 < x) (h:∀ q,Prm q→q ∣ x→¬ q ∣ y):Nat.Coprime x y:=by
 apply Classical.byContradiction
 intro hn
 have h0:0 < Nat.gcd x y:=Nat.gcd_pos_of_pos_left y hx
 have h1:Nat.gcd x y≠1:=hn
 obtain ⟨q,hq,hd⟩:=QdK (Nat.gcd x y) (by omega)
 exact h q hq (Nat.dvd_trans hd (Nat.gcd_dvd_left x y)) (Nat.dvd_trans hd (Nat.gcd_dvd_right x y))
def Sqf (n:Nat):Prop:=0 < n∧∀ d,d*d ∣ n→d=1
theorem Sqf.mul {F p:Nat} (h:Sqf F) (hp:Prm p) (hn:¬ p ∣ F):Sqf (F*p):=by
 refine ⟨Nat.mul_pos h.1 (by have:=hp.two; omega),fun d hd=>?_⟩
 have h1:¬ p ∣ d:=fun ⟨k,hk⟩=>by
  have h2:p*p ∣ F*p:=Nat.dvd_trans ⟨k*k,by rw [hk]; simp only [Nat.mul_left_comm,Nat.mul_comm]⟩ hd
  exact hn (Nat.dvd_of_mul_dvd_mul_right (by have:=hp.two; omega) h2)
 refine h.2 d (Nat.Coprime.dvd_of_dvd_mul_right (n:=p) ?_ hd)
 refine Nat.Coprime.symm (QfX (by have:=hp.two; omega) fun q hq h2 h3=>?_)
 have:=Qez hq hp h2
 subst this
 rcases QeT hq h3 with h4 | h4<;>exact h1 h4
end Go.Fq

/- Levels and discriminants of even forms: denominators, squarefree parts. No condition. -/
namespace Go.Fq
def lv (d:Nat→Nat):Nat→Nat
 | 0=>1
 | j+1=>lv d j*(d j / Nat.gcd (lv d j) (d j))
theorem Qgg {x w z:Nat} (hw:0 < w) (h:x*(w*w)=z*z):∃ r,x=r*r:=by
 have h1:w ^ 2 ∣ z ^ 2:=by rw [Nat.pow_two,Nat.pow_two,← h]; exact Nat.dvd_mul_left ..
 obtain ⟨r,hr⟩:=(Nat.pow_dvd_pow_iff (by omega)).1 h1
 refine ⟨r,Nat.eq_of_mul_eq_mul_right (Nat.mul_pos hw hw) ?_⟩
 rw [h,hr]
 simp only [Nat.mul_left_comm,Nat.mul_comm]
def Cnd (D:Nat) (e s:Int) (d:Nat):Prop:=((s*d) % 4=1∧Sqf d∨(s*d) % 4=0∧(s*d / 4) % 4 > 1∧Sqf (d / 4))∧s=e∧∃ z,D*d=z*z
theorem Cnd.part {D d:Nat} {e s:Int} (he:e=1∨e = -1) (h:Cnd D e s d):∃ a,Sqf a∧a≤d∧(d=a∧(e*a) % 4=1∨d=4*a∧(e*a) % 4 > 1)∧∃ z,a*D=z*z:=by
 obtain ⟨h1,rfl,z,hz⟩:=h
 rcases h1 with ⟨h2,h3⟩ | ⟨h2,h3,h4⟩
 ·exact ⟨d,h3,Nat.le_refl d,.inl ⟨rfl,h2⟩,z,by rw [Nat.mul_comm]; exact hz⟩
 ·have hd:d % 4=0:=by rcases he with rfl | rfl<;>omega
  obtain ⟨a,ha⟩:∃ a,d=4*a:=⟨d / 4,by omega⟩
  subst ha
  rw [show 4*a / 4=a by omega] at h4
  have h5:s*((4*a:Nat):Int) / 4=s*a:=by rcases he with rfl | rfl<;>omega
  rw [h5] at h3
  obtain ⟨r,hr⟩:=Qgg (x:=D*a) (w:=2) (z:=z) (by decide) (by rw [← hz]; simp only [Nat.mul_comm,Nat.mul_assoc])
  exact ⟨a,h4,by omega,.inr ⟨rfl,h3⟩,r,by rw [Nat.mul_comm]; exact hr⟩
end Go.Fq

/- The bound of a determinant of integers. No condition. -/
namespace Go.La
def pz:Nat→(Nat→Int)→Int
 | 0,_=>1
 | n+1,f=>pz n f*f n
end Go.La

/- The vectors of a box in lexicographic order. No condition. -/
namespace Go.Bx
def vol (b:Nat→Nat) (n:Nat):Nat→Nat
 | 0=>1
 | k+1=>(2*b (n - (k+1))+1)*vol b n k
def str (b:Nat→Nat) (n i:Nat):Nat:=vol b n (n - (i+1))
def all (b:Nat→Nat) (n:Nat):Nat:=vol b n n
def dig (b:Nat→Nat) (n k i:Nat):Nat:=(k / str b n i) % (2*b i+1)
def vec (b:Nat→Nat) (n k i:Nat):Int:=(dig b n k i:Int) - b i
def Full (b:Nat→Nat) (n k i:Nat):Prop:=∀ j,i < j→j < n→dig b n k j=2*b j
end Go.Bx

/- Boxes: the reverse order, boxes side by side, counts. No condition. -/
namespace Go.Bx
def cnt:Nat→(Nat→Bool)→Nat
 | 0,_=>0
 | n+1,f=>cnt n f+if f n then 1 else 0
theorem VD:∀ {n:Nat} {f g:Nat→Bool},(∀ k,k < n→f k=g k)→cnt n f=cnt n g
 | 0,_,_,_=>rfl
 | n+1,f,g,h=>by show cnt n f+_=cnt n g+_; rw [VD fun k hk=>h k (by omega),h n (by omega)]
theorem ql:∀ {n:Nat} {f:Nat→Bool},(∀ k,k < n→f k=false)→cnt n f=0
 | 0,_,_=>rfl
 | n+1,f,h=>by show cnt n f+_=0; rw [ql fun k hk=>h k (by omega),h n (by omega)]; rfl
def sumn:Nat→(Nat→Nat)→Nat
 | 0,_=>0
 | n+1,f=>sumn n f+f n
end Go.Bx

/- Boxes hold all vectors of small value; vectors and their numbers. No condition. -/
namespace Go.Bx
open Go.La (bl bl_symm QK bl_comb_right vF idm Pdf)
end Go.Bx

/- The inverse of a matrix of integers by its adjugate: sizes, signs. No condition. -/
namespace Go.La
theorem mm_asc {n:Nat} (X A Y:Mx Rat) (i j:Nat):mm n (mm n X A) Y i j=mm n X (mm n A Y) i j:=by
 unfold mm
 rw [sm_congr (f:=fun k=>(sm n fun l=>X i l*A l k)*Y k j) (g:=fun k=>sm n fun l=>X i l*(A l k*Y k j)) fun k _=>by
  rw [← JU]; exact sm_congr fun l _=>Rat.mul_assoc _ _ _,Jw]
 exact sm_congr fun l _=>Qy _ _ _
end Go.La

/- Lists of the indices at which a condition holds; boxes' sizes. No condition. -/
namespace Go.Bx
def idx (p:Nat→Bool) (N:Nat):List Nat:=(List.range N).filter p
def szl (B:Nat) (b:Nat→Nat):Nat→Nat
 | 0=>1
 | i+1=>min (szl B b i*(2*min (b i) B+1)) (B+1)
def pre (b:Nat→Nat):Nat→Nat
 | 0=>1
 | i+1=>pre b i*(2*b i+1)
end Go.Bx

/- Integer square roots. No condition. -/
namespace Go.Bx
theorem QcU:∀ A:Nat,∃ R:Nat,R*R≤A∧A < (R+1)*(R+1)
 | 0=>⟨0,by decide,by decide⟩
 | A+1=>by
  obtain ⟨R,h1,h2⟩:=QcU A
  by_cases h:A+1 < (R+1)*(R+1)
  ·exact ⟨R,by omega,h⟩
  ·refine ⟨R+1,by omega,?_⟩
   have:(R+1+1)*(R+1+1)=(R+1)*(R+1)+(R+1)+(R+1)+1:=by simp only [Nat.add_mul,Nat.mul_add]; omega
   omega
noncomputable def isq (A:Nat):Nat:=Classical.choose (QcU A)
def dg (n i:Nat):Nat:=i / n+if i / n < i % n then 1 else 0
end Go.Bx

/- The adjugate by minors. No condition. -/
namespace Go.Lr
open Go.La (Mx setr Qg Qf swap swap_at swap_ne skip JM)
variable {K:Type} [Rg K]
def top (A:Mx K) (k:Nat):Mx K:=fun i=>if i=0 then A k else A (skip k (i - 1))
end Go.Lr

/- Even forms: a change of basis. No condition. -/
namespace Go.Bx
open Go.La (Mx mm tr idm)
end Go.Bx

/- Sums of two and of four squares up to 30, counted in boxes. -/
namespace Go.Bx
def sq (x:Int):Nat:=x.natAbs*x.natAbs
def s2 (β k:Nat):Nat:=sq (vec (fun _=>β) 2 k 0)+sq (vec (fun _=>β) 2 k 1)
def s4 (β k:Nat):Nat:=sq (vec (fun _=>β) 4 k 0)+sq (vec (fun _=>β) 4 k 1)+(sq (vec (fun _=>β) 4 k 2)+sq (vec (fun _=>β) 4 k 3))
def chi (d:Nat):Int:=if d % 4=1 then 1 else if d % 4=3 then -1 else 0
def two (n:Nat):Nat→Int
 | 0=>0
 | d+1=>if n % (d+1)=0 then two n d+4*chi (d+1) else two n d
def four (n:Nat):Nat→Int
 | 0=>0
 | d+1=>if n % (d+1)=0∧(d+1) % 4≠0 then four n d+8*((d+1:Nat):Int) else four n d
def rt (n:Nat):Nat:=if n < 1 then 0 else if n < 4 then 1 else if n < 9 then 2 else if n < 16 then 3 else if n < 25 then 4 else 5
def chk2:Bool:=(List.range 31).all fun n=>n == 0 || decide (((cnt (all (fun _=>rt n) 2) (fun k=>s2 (rt n) k == n):Nat):Int)=two n n)
def chk4:Bool:=(List.range 31).all fun n=>n == 0 || decide (((sumn (n+1) fun j=>cnt (all (fun _=>rt n) 2) (fun q=>s2 (rt n) q == j)*cnt (all (fun _=>rt n) 2) (fun r=>s2 (rt n) r == n - j):Nat):Int)=four n n)
end Go.Bx
