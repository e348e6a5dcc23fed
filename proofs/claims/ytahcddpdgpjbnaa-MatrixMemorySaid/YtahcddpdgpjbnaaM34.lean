/- Texts of this seat's own, merged: each begins with its own remark. -/
import Derived.Test.YtahcddpdgpjbnaaM19
/- Kernels and systems of equations. No condition. -/
namespace Go.La
section
variable {K:Type} [Fld K]
def aug (n:Nat) (T:Mx K):Mx K:=fun i j=>if j < n then T i j else idm i (j - n)
theorem jW {n i j:Nat} {T:Mx K} (h:j < n):aug n T i j=T i j:=if_pos h
theorem qJ {n i j:Nat} {T:Mx K}:aug n T i (n+j)=idm i j:=by unfold aug; rw [if_neg (by omega),Nat.add_sub_cancel_left]
theorem sp_aug {m n:Nat} {T:Mx K} {v:Nat→K}:Sp m (n+m) (aug n T) v↔∀ j,j < n→v j=sm m fun i=>v (n+i)*T i j:=by
 refine ⟨fun ⟨c,hc⟩ j hj=>?_,fun h=>⟨fun i=>v (n+i),fun j hj=>?_⟩⟩
 ·have h1:∀ t,t < m→v (n+t)=c t:=fun t ht=>by
   rw [hc (n+t) (by omega),QU t ht (fun k _ hk=>by rw [qJ]; unfold idm; rw [if_neg hk,mul_zero]),qJ,idm,if_pos rfl,mul_one]
  rw [hc j (by omega)]
  exact Qh fun i hi=>by rw [h1 i hi,jW hj]
 ·rcases Nat.lt_or_ge j n with h1 | h1
  ·rw [h j h1]
   exact Qh fun i _=>by rw [jW h1]
  ·obtain ⟨t,rfl⟩:∃ t,j=n+t:=⟨j - n,by omega⟩
   rw [QU t (by omega) (fun k _ hk=>by rw [qJ]; unfold idm; rw [if_neg hk,mul_zero]),qJ,idm,if_pos rfl,mul_one]
def Ker (m n:Nat) (T:Mx K) (x:Nat→K):Prop:=∀ j,j < n→sm m (fun i=>x i*T i j)=0
structure KerOf (m n s:Nat) (T R:Mx K) (q:Nat→Nat):Prop where
 ech:Ech s m R q
 sp:∀ x,Ker m n T x↔Sp s m R x
theorem KerOf.unique {m n s s':Nat} {T R R':Mx K} {q q':Nat→Nat} (h:KerOf m n s T R q) (h':KerOf m n s' T R' q'):s=s'∧(∀ i,i < s→q i=q' i)∧∀ i j,i < s→j < m→R i j=R' i j :=
 h.ech.unique h'.ech ⟨fun _ hi=>(h'.sp _).1 ((h.sp _).2 (Sp.row hi)),fun _ hi=>(h.sp _).1 ((h'.sp _).2 (Sp.row hi))⟩
theorem Ker.shift {m n:Nat} {T:Mx K} {x:Nat→K}:Ker m n T x↔Sp m (n+m) (aug n T) (fun j=>if j < n then 0 else x (j - n)):=by
 rw [sp_aug]
 refine ⟨fun h j hj=>?_,fun h j hj=>?_⟩
 ·rw [if_pos hj,← h j hj]
  exact Qh fun i _=>by rw [if_neg (by omega),Nat.add_sub_cancel_left]
 ·have:=h j hj
  rw [if_pos hj] at this
  rw [this]
  exact Qh fun i _=>by rw [if_neg (by omega),Nat.add_sub_cancel_left]
theorem Ker.of_sp {m n:Nat} {T:Mx K} {v:Nat→K} (h:Sp m (n+m) (aug n T) v) (hz:∀ j,j < n→v j=0):Ker m n T (fun i=>v (n+i)):=fun j hj=>by
 rw [← sp_aug.1 h j hj]; exact hz j hj
theorem split_pivots {r n:Nat} {p:Nat→Nat} (h:∀ i k,i < k→k < r→p i < p k):∃ s,s≤r∧(∀ i,i < s→p i < n)∧∀ i,s≤i→i < r→n≤p i:=by
 induction r with
 | zero=>exact ⟨0,Nat.le_refl 0,fun i hi=>absurd hi (Nat.not_lt_zero i),fun i _ hi=>absurd hi (Nat.not_lt_zero i)⟩
 | succ r ih =>
  obtain ⟨s,h1,h2,h3⟩:=ih (fun i k hik hk=>h i k hik (by omega))
  by_cases hr:p r < n
  ·refine ⟨r+1,Nat.le_refl _,fun i hi=>?_,fun i h4 h5=>absurd h4 (by omega)⟩
   rcases Nat.lt_or_eq_of_le (Nat.le_of_lt_succ hi) with h4 | h4
   ·have:=h i r h4 (by omega); omega
   ·rw [h4]; exact hr
  ·refine ⟨s,by omega,h2,fun i h4 h5=>?_⟩
   rcases Nat.lt_or_eq_of_le (Nat.le_of_lt_succ h5) with h6 | h6
   ·exact h3 i h4 h6
   ·rw [h6]; omega
theorem kern_ref {m n r s:Nat} {T R:Mx K} {p:Nat→Nat} (h:Ech r (n+m) R p) (e:Same r m (n+m) R (aug n T)) (hs:s≤r) (h1:∀ i,i < s→p i < n) (h2:∀ i,s≤i→i < r→n≤p i) :
  KerOf m n (r - s) T (fun i j=>R (s+i) (n+j)) (fun i=>p (s+i) - n)∧Ech s n R p∧Same s m n R T∧r=m:=by
 have hrm:r=m:=by
  refine Nat.le_antisymm (h.le e.lt) ?_
  refine VT (A:=aug n T) e.rt fun x hx i hi=>?_
  have:=hx (n+i) (by omega)
  rwa [QU i hi (fun k _ hk=>by rw [qJ]; unfold idm; rw [if_neg hk,mul_zero]),qJ,idm,if_pos rfl,mul_one] at this
 refine ⟨⟨⟨fun i hi=>?_,fun i k hik hk=>?_,fun i k hi hk=>?_,fun i j hi hj=>?_⟩,fun x=>⟨fun hx=>?_,fun hx=>?_⟩⟩,⟨h1,fun i k hik hk=>h.mono i k hik (by omega),fun i k hi hk=>h.one i k (by omega) (by omega),fun i j hi hj=>h.zero i j (by omega) hj⟩,⟨fun i hi=>?_,fun i hi=>?_⟩,hrm⟩
 ·have:=h.lt (s+i) (by omega); have:=h2 (s+i) (by omega) (by omega); show p (s+i) - n < m; omega
 ·have:=h.mono (s+i) (s+k) (by omega) (by omega); have:=h2 (s+i) (by omega) (by omega); show p (s+i) - n < p (s+k) - n; omega
 ·have h3:=h2 (s+k) (by omega) (by omega)
  show R (s+i) (n+(p (s+k) - n))=_
  rw [show n+(p (s+k) - n)=p (s+k) by omega,h.one _ _ (by omega) (by omega)]
  by_cases e:i=k
  ·rw [if_pos e,if_pos (by omega)]
  ·rw [if_neg e,if_neg (by omega)]
 ·have h3:=h2 (s+i) (by omega) (by omega)
  exact h.zero (s+i) (n+j) (by omega) (by omega)
 ·have h3:=e.rt |> fun ert=>(Ker.shift.1 hx).trans ert
  refine ⟨fun i=>x (p (s+i) - n),fun j hj=>?_⟩
  have h4:=h.coef h3 (j:=n+j) (by omega)
  rw [if_neg (by omega),Nat.add_sub_cancel_left,show r=s+(r - s) by omega,JW,QB (n:=s) (fun i hi=>by rw [if_pos (h1 i hi),zero_mul]),zero_add] at h4
  rw [h4]
  exact Qh fun i hi=>by rw [if_neg (by have:=h2 (s+i) (by omega) (by omega); omega)]
 ·obtain ⟨c,hc⟩:=hx
  have h3:Sp r (n+m) R (fun j=>sm (r - s) fun i=>c i*R (s+i) j):=Sp.sum c (fun i=>R (s+i)) fun i hi=>Sp.row (by omega)
  have h4:=Ker.of_sp (h3.trans e.lt) (fun j hj=>QB fun i hi=>by rw [h.zero (s+i) j (by omega) (by have:=h2 (s+i) (by omega) (by omega); omega),mul_zero])
  intro j hj
  rw [← h4 j hj]
  exact Qh fun i hi=>by rw [hc i hi]
 ·exact (((Sp.row (A:=R) (n:=n+m) (i:=i) (r:=r) (by omega)).trans e.lt).cut (Nat.le_add_right n m)).congr (fun a j _ hj=>jW hj) (fun _ _=>rfl)
 ·have h3:Sp r n R (T i):=((e.rt i hi).cut (Nat.le_add_right n m)).congr (fun _ _ _ _=>rfl) (fun j hj=>jW hj)
  obtain ⟨c,hc⟩:=h3
  refine ⟨c,fun j hj=>?_⟩
  rw [hc j hj,show r=s+(r - s) by omega,JW,QB (n:=r - s) (fun k hk=>by rw [h.zero (s+k) j (by omega) (by have:=h2 (s+k) (by omega) (by omega); omega),mul_zero]),add_zero]
theorem red_left {m n r:Nat} {T R:Mx K} {p:Nat→Nat} {d:K} (h:Red m (n+m) n r (aug n T) R p d):Ech r n R p∧Same r m n R T:=by
 refine ⟨⟨h.below,h.ech.mono,h.ech.one,h.ech.zero⟩,⟨fun i hi=>?_,fun i hi=>?_⟩⟩
 ·exact ((h.span.lt i (by have:=h.le; omega)).cut (Nat.le_add_right n m)).congr (fun a j _ hj=>jW hj) (fun _ _=>rfl)
 ·have h3:Sp m n R (T i):=((h.span.rt i hi).cut (Nat.le_add_right n m)).congr (fun _ _ _ _=>rfl) (fun j hj=>jW hj)
  obtain ⟨c,hc⟩:=h3
  refine ⟨c,fun j hj=>?_⟩
  have hr:=h.le
  rw [hc j hj,show m=r+(m - r) by omega,JW,QB (n:=m - r) (fun k hk=>by rw [h.zero (r+k) j (by omega) (by omega) hj,mul_zero]),add_zero]
theorem Qdp {m n r:Nat} {T R:Mx K} {p:Nat→Nat} {d:K} (h:Red m (n+m) n r (aug n T) R p d) (x:Nat→K):Ker m n T x↔Sp (m - r) m (fun i j=>R (r+i) (n+j)) x:=by
 have hr:=h.le
 refine ⟨fun hx=>?_,fun ⟨c,hc⟩=>?_⟩
 ·obtain ⟨c,hc⟩:=(Ker.shift.1 hx).trans h.span.rt
  -- the coefficients of the first r rows are nought
  have hz:∀ i,i < r→c i=0:=fun i hi=>by
   have h1:=h.below i hi
   have h2:=hc (p i) (by omega)
   simp only at h2
   rw [if_pos h1,QU i (by omega) (fun k hk hne=>by
    rcases Nat.lt_or_ge k r with h3 | h3
    ·rw [h.ech.one k i h3 hi,if_neg hne,mul_zero]
    ·rw [h.zero k (p i) h3 hk h1,mul_zero]),h.ech.one i i hi hi,if_pos rfl,mul_one] at h2
   exact h2.symm
  refine ⟨fun i=>c (r+i),fun j hj=>?_⟩
  have h2:=hc (n+j) (by omega)
  simp only at h2
  rw [if_neg (by omega),Nat.add_sub_cancel_left] at h2
  have hm:sm m (fun i=>c i*R i (n+j))=sm (r+(m - r)) (fun i=>c i*R i (n+j)):=by rw [show r+(m - r)=m by omega]
  rw [h2,hm,JW,QB (n:=r) (fun i hi=>by rw [hz i hi,zero_mul]),zero_add]
 ·have h3:Sp m (n+m) R (fun j=>sm (m - r) fun i=>c i*R (r+i) j):=Sp.sum c (fun i=>R (r+i)) fun i hi=>Sp.row (by omega)
  have h4:=Ker.of_sp (h3.trans h.span.lt) (fun j hj=>QB fun i hi=>by rw [h.zero (r+i) j (by omega) (by omega) hj,mul_zero])
  intro j hj
  rw [← h4 j hj]
  exact Qh fun i hi=>by rw [hc i hi]
theorem red_kerof {m n r r2:Nat} {T R K2:Mx K} {p p2:Nat→Nat} {d:K} (h:Red m (n+m) n r (aug n T) R p d) (h2:Ech r2 m K2 p2) (e2:Same r2 (m - r) m K2 (fun i j=>R (r+i) (n+j))):KerOf m n r2 T K2 p2∧r2=m - r:=by
 have hr:=h.le
 refine ⟨⟨h2,fun x=>(Qdp h x).trans e2.sp.symm⟩,Nat.le_antisymm (h2.le e2.lt) ?_⟩
 -- [T|I] lies in the span of r rows and of r2
 have h3:m≤r+r2:=by
  refine VT (n:=n+m) (A:=aug n T) (B:=stack r R (fun i j=>if j < n then 0 else K2 i (j - n))) (fun i hi=>(h.span.rt i hi).trans fun k hk=>?_) fun x hx i hi=>?_
  ·rcases Nat.lt_or_ge k r with h3 | h3
   ·have:=Sp.row (n:=n+m) (A:=stack r R (fun i j=>if j < n then 0 else K2 i (j - n))) (i:=k) (r:=r+r2) (by omega)
    rwa [QG h3] at this
   ·obtain ⟨u,rfl⟩:∃ u,k=r+u:=⟨k - r,by omega⟩
    obtain ⟨c,hc⟩:=e2.rt u (by omega)
    have h4:Sp (r+r2) (n+m) (stack r R (fun i j=>if j < n then 0 else K2 i (j - n))) (fun j=>sm r2 fun i=>c i*(if j < n then 0 else K2 i (j - n))) :=
     Sp.sum c (fun i j=>if j < n then 0 else K2 i (j - n)) fun i hi=>by
      have:=Sp.row (n:=n+m) (A:=stack r R (fun i j=>if j < n then 0 else K2 i (j - n))) (i:=r+i) (r:=r+r2) (by omega)
      rwa [Qx] at this
    refine h4.congr (fun _ _ _ _=>rfl) (fun j hj=>?_)
    rcases Nat.lt_or_ge j n with h5 | h5
    ·rw [h.zero (r+u) j (by omega) hk h5]
     exact QB fun i _=>by rw [if_pos h5,mul_zero]
    ·have h6:=hc (j - n) (by omega)
     simp only at h6
     rw [show n+(j - n)=j by omega] at h6
     rw [h6]
     exact Qh fun i _=>by rw [if_neg (by omega)]
  ·have:=hx (n+i) (by omega)
   rwa [QU i hi (fun k _ hk=>by rw [qJ]; unfold idm; rw [if_neg hk,mul_zero]),qJ,idm,if_pos rfl,mul_one] at this
 omega
def Sol (m n:Nat) (T:Mx K) (b x:Nat→K):Prop:=∀ j,j < n→b j=sm m fun i=>x i*T i j
theorem Sol.sub {m n:Nat} {T:Mx K} {b x y:Nat→K} (h:Sol m n T b x) (h':Sol m n T b y):Ker m n T (fun i=>x i + -y i):=fun j hj=>by
 have h1:(sm m fun i=>(x i + -y i)*T i j)=(sm m fun i=>x i*T i j) + -(sm m fun i=>y i*T i j):=by
  rw [← VC,← JM]
  exact Qh fun i _=>by rw [add_mul,neg_mul]
 rw [h1,← h j hj,← h' j hj,add_neg_self]
def SolOf (m n:Nat) (T:Mx K) (b x:Nat→K):Prop:=Sol m n T b x∧∃ s R q,KerOf m n s T R q∧∀ i,i < s→x (q i)=0
theorem SolOf.unique {m n:Nat} {T:Mx K} {b x y:Nat→K} (h:SolOf m n T b x) (h':SolOf m n T b y):∀ i,i < m→x i=y i:=by
 obtain ⟨h1,s,R,q,hk,hz⟩:=h
 obtain ⟨h1',s',R',q',hk',hz'⟩:=h'
 obtain ⟨rfl,hq,-⟩:=hk.unique hk'
 intro i hi
 have h2:=hk.ech.coef ((hk.sp _).1 (h1.sub h1')) hi
 rw [QB (fun t ht=>by rw [hz t ht]; have:=hz' t ht; rw [← hq t ht] at this; rw [this,neg_zero,add_zero,zero_mul])] at h2
 exact QbM h2
end
end Go.La

/- Rows times an invertible matrix. No condition. -/
namespace Go.La
section
variable {K:Type} [Fld K]
end
end Go.La

/- Solving by what is left. No condition. -/
namespace Go.La
section
variable {K:Type} [Fld K]
theorem Qes {m:Nat} (X N:Nat→K) (f:K) (T:Nat→K):(sm m fun t=>(X t+f*N t)*T t)=(sm m fun t=>X t*T t)+f*sm m fun t=>N t*T t:=by
 rw [← Jm,← JM]
 exact Qh fun t _=>by rw [add_mul,mul_assoc]
theorem QbQ {m n r:Nat} {T R:Mx K} {p:Nat→Nat} {b rest X:Nat→K} (hp:Ech r n R p) (hs:Same r m n R T) (h:∀ j,j < n→b j=rest j+sm m fun t=>X t*T t j) (hz:∀ i,i < r→rest (p i)=0) {y:Nat→K} (hy:Sol m n T b y):∀ j,j < n→rest j=0:=by
 have h1:Sp m n T rest:=⟨fun t=>y t + -X t,fun j hj=>by
  have h2:(sm m fun t=>(y t + -X t)*T t j)=(sm m fun t=>y t*T t j) + -(sm m fun t=>X t*T t j):=by
   rw [← VC,← JM]
   exact Qh fun t _=>by rw [add_mul,neg_mul]
  rw [h2,← hy j hj,h j hj,add_assoc,add_neg_self,add_zero]⟩
 intro j hj
 rw [hp.coef (hs.sp.2 h1) hj]
 exact QB fun i hi=>by rw [hz i hi,zero_mul]
theorem Sol.add {m n:Nat} {T:Mx K} {b X k:Nat→K} (h:Sol m n T b X) (hk:Ker m n T k) (f:K):Sol m n T b (fun t=>X t+f*k t):=fun j hj=>by
 rw [Qes X k f (fun t=>T t j),hk j hj,mul_zero,add_zero]; exact h j hj
end
def dbl (W k:Nat):Nat→Nat
 | 0=>k
 | i+1=>2*dbl W k i+W+1
theorem dbl_le {W k i j:Nat} (h:i≤j):dbl W k i≤dbl W k j:=by
 induction j with
 | zero => have : i = 0 := by omega
           subst this; exact Nat.le_refl _
 | succ j ih =>
  rcases Nat.lt_or_eq_of_le h with h1 | h1
  ·have:=ih (by omega); show dbl W k i≤2*dbl W k j+W+1; omega
  ·rw [h1]; exact Nat.le_refl _
end Go.La

/- Solving by the echelon form of [T|I]. No condition. -/
namespace Go.La
section
variable {K:Type} [Fld K]
theorem rest_step {r N i:Nat} {R:Mx K} {p:Nat→Nat} {f rest:Nat→K} (h:Ech r N R p) (hi:i < r) (hsp:Sp r N R (fun j=>f j + -rest j)) (hz:∀ t,t < i→rest (p t)=0) :
  Sp r N R (fun j=>f j + -(clr rest (R i) (p i) j))∧∀ t,t < i+1→clr rest (R i) (p i) (p t)=0:=by
 refine ⟨(hsp.comb (rest (p i)) (Sp.row hi)).congr (fun _ _ _ _=>rfl) fun j _=>?_,fun t ht=>?_⟩
 ·show f j + -rest j+rest (p i)*R i j=f j + -(rest j + -(rest (p i))*R i j)
  rw [neg_add,neg_mul,YZ,add_assoc]
 ·show rest (p t) + -(rest (p i))*R i (p t)=0
  rcases Nat.lt_or_eq_of_le (Nat.le_of_lt_succ ht) with h1 | h1
  ·rw [hz t h1,h.one i t hi (by omega),if_neg (by omega),mul_zero,add_zero]
  ·subst h1
   rw [h.one t t hi hi,if_pos rfl,mul_one,add_neg_self]
theorem solve_ref {m n r:Nat} {T R:Mx K} {p:Nat→Nat} {b rest:Nat→K} (h:Ech r (n+m) R p) (e:Same r m (n+m) R (aug n T)) (hsp:Sp r (n+m) R (fun j=>(if j < n then b j else 0) + -rest j)) (hz:∀ i,i < r→rest (p i)=0) :
  ((∀ j,j < n→rest j=0)→SolOf m n T b (fun t => -rest (n+t)))∧∀ y,Sol m n T b y→∀ j,j < n→rest j=0:=by
 obtain ⟨s,hs,h1,h2⟩:=split_pivots (n:=n) h.mono
 obtain ⟨hk,he,hsm,hrm⟩:=kern_ref h e hs h1 h2
 have h3:∀ j,j < n→b j=rest j+sm m fun t => -rest (n+t)*T t j:=fun j hj=>by
  have h4:=sp_aug.1 (hsp.trans e.lt) j hj
  rw [if_pos hj] at h4
  have h5:(sm m fun i=>((if n+i < n then b (n+i) else 0) + -rest (n+i))*T i j)=sm m fun t => -rest (n+t)*T t j:=Qh fun i _=>by rw [if_neg (by omega),zero_add]
  rw [h5] at h4
  rw [← h4,Jy,add_neg_self,add_zero]
 refine ⟨fun h0=>⟨fun j hj=>?_,r - s,_,_,hk,fun i hi=>?_⟩,fun y hy=>QbQ he hsm h3 (fun i hi=>hz i (by omega)) hy⟩
 ·rw [h3 j hj,h0 j hj,zero_add]
 ·have:=h2 (s+i) (by omega) (by omega)
  show -rest (n+(p (s+i) - n))=0
  rw [show n+(p (s+i) - n)=p (s+i) by omega,hz _ (by omega),neg_zero]
end
end Go.La
