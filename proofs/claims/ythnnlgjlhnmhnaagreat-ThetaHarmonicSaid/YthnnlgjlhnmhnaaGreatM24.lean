/- Texts of this seat's own, merged: each begins with its own remark. -/
import Derived.Test.YthnnlgjlhnmhnaaGreatM19
/- Symmetric forms: orthogonal bases, Sylvester's law of inertia. No condition. -/
namespace Go.La
section
variable {K:Type} [Fld K]
def bl (n:Nat) (A:Mx K) (x y:Nat→K):K:=sm n fun j=>(sm n fun i=>x i*A i j)*y j
theorem bl_congr {n:Nat} {A B:Mx K} {x x' y y':Nat→K} (hA:∀ i j,i < n→j < n→A i j=B i j) (hx:∀ j,j < n→x j=x' j) (hy:∀ j,j < n→y j=y' j):bl n A x y=bl n B x' y' :=
 sm_congr fun j hj=>by rw [hy j hj,sm_congr fun i hi=>by rw [hx i hi,hA i j hi hj]]
theorem VJ {n r:Nat} {A T:Mx K} {c x y:Nat→K} (h:∀ j,j < n→x j=sm r fun k=>c k*T k j):bl n A x y=sm r fun k=>c k*bl n A (T k) y:=by
 have e1:∀ j,j < n→(sm n fun i=>x i*A i j)*y j=sm r fun k=>c k*((sm n fun i=>T k i*A i j)*y j):=fun j hj=>by
  rw [sm_congr (f:=fun i=>x i*A i j) (g:=fun i=>sm r fun k=>c k*(T k i*A i j)) fun i hi=>by
   rw [h i hi,← sm_mul']; exact sm_congr fun k _=>mul_assoc _ _ _]
  rw [sm_comm,← sm_mul']
  exact sm_congr fun k _=>by rw [sm_mul,mul_assoc]
 unfold bl
 rw [sm_congr e1,sm_comm]
 exact sm_congr fun k _=>sm_mul _ _ _
theorem jw {n r:Nat} {A T:Mx K} {c x y:Nat→K} (h:∀ j,j < n→y j=sm r fun k=>c k*T k j):bl n A x y=sm r fun k=>c k*bl n A x (T k):=by
 have e1:∀ j,j < n→(sm n fun i=>x i*A i j)*y j=sm r fun k=>c k*((sm n fun i=>x i*A i j)*T k j):=fun j hj=>by
  rw [h j hj,← sm_mul]; exact sm_congr fun k _=>mul_left_comm _ _ _
 unfold bl
 rw [sm_congr e1,sm_comm]
 exact sm_congr fun k _=>sm_mul _ _ _
theorem QL {n:Nat} {A:Mx K} {u v y:Nat→K} (t:K):bl n A (fun j=>u j+t*v j) y=bl n A u y+t*bl n A v y:=by
 unfold bl
 rw [← sm_mul,← JK]
 refine sm_congr fun j _=>?_
 rw [← mul_assoc,← sm_mul,← add_mul,← JK]
 congr 1
 exact sm_congr fun i _=>by rw [add_mul,mul_assoc]
theorem JY {n:Nat} {A:Mx K} {x u v:Nat→K} (t:K):bl n A x (fun j=>u j+t*v j)=bl n A x u+t*bl n A x v:=by
 unfold bl
 rw [← sm_mul,← JK]
 exact sm_congr fun j _=>by rw [mul_add,mul_left_comm]
theorem bl_symm {n:Nat} {A:Mx K} (h:∀ i j,i < n→j < n→A i j=A j i) (x y:Nat→K):bl n A x y=bl n A y x:=by
 unfold bl
 rw [sm_congr (f:=fun j=>(sm n fun i=>x i*A i j)*y j) (g:=fun j=>sm n fun i=>x i*A i j*y j) fun j _=>(sm_mul' _ _ _).symm,sm_comm]
 refine sm_congr fun i hi=>?_
 rw [← sm_mul']
 exact sm_congr fun j hj=>by rw [h i j hi hj,mul_comm (y j),mul_comm (x i),mul_assoc,mul_assoc,mul_comm (x i)]
theorem Qdl {n i j:Nat} {A:Mx K} (hi:i < n) (hj:j < n):bl n A (idm i) (idm j)=A i j:=by
 unfold bl
 rw [sm_one j hj fun k _ hk=>by unfold idm; rw [if_neg (Ne.symm hk),mul_zero],sm_one i hi fun k _ hk=>by unfold idm; rw [if_neg (Ne.symm hk),zero_mul]]
 unfold idm
 rw [if_pos rfl,if_pos rfl,one_mul,mul_one]
theorem QfY {n:Nat} (x:Nat→K):Sp n n (idm:Mx K) x:=⟨x,fun j hj=>by
 rw [sm_one j hj fun k _ hk=>by unfold idm; rw [if_neg hk,mul_zero]]
 unfold idm; rw [if_pos rfl,mul_one]⟩
end
structure Sig (n p m w:Nat) (A P N W:Mx Rat):Prop where
 pp:∀ i,i < p→0 < bl n A (P i) (P i)
 nn:∀ i,i < m→bl n A (N i) (N i) < 0
 po:∀ i j,i < p→j < p→i≠j→bl n A (P i) (P j)=0
 no:∀ i j,i < m→j < m→i≠j→bl n A (N i) (N j)=0
 wo:∀ i j,i < w→j < w→bl n A (W i) (W j)=0
 pn:∀ i j,i < p→j < m→bl n A (P i) (N j)=0
 wp:∀ i j,i < w→j < p→bl n A (W i) (P j)=0
 wn:∀ i j,i < w→j < m→bl n A (W i) (N j)=0
 all:∀ x,Sp (p+(m+w)) n (stack p P (stack m N W)) x
theorem qQ:∀ {n:Nat} {f:Nat→Rat},(∀ k,k < n→0≤f k)→0≤sm n f
 | 0,_,_=>Rat.le_refl
 | n+1,f,h=>by
  show 0≤sm n f+f n
  have h1:=qQ (n:=n) (f:=f) fun k hk=>h k (by omega)
  have h2:=h n (by omega)
  grind
theorem QcB {n:Nat} {f:Nat→Rat} (h:∀ k,k < n→0≤f k) {t:Nat} (ht:t < n) (h0:0 < f t):0 < sm n f:=by
 induction n with
 | zero=>omega
 | succ n ih =>
  show 0 < sm n f+f n
  by_cases e:t=n
  ·have h1:=qQ (n:=n) (f:=f) fun k hk=>h k (by omega)
   subst e
   grind
  ·have h1:=ih (fun k hk=>h k (by omega)) (by omega)
   have h2:=h n (by omega)
   grind
theorem sq_nonneg (x:Rat):0≤x*x:=by
 by_cases h:0≤x
 ·exact Rat.mul_nonneg h h
 ·have h1:0 ≤ -x:=by grind
  have:=Rat.mul_nonneg h1 h1
  grind
theorem sq_pos {x:Rat} (h:x≠0):0 < x*x:=by
 have h1:=sq_nonneg x
 have h2:x*x≠0:=mul_ne h h
 grind
theorem Qaj {n p m w:Nat} {P N W:Mx Rat} {x:Nat→Rat} (h:Sp (p+(m+w)) n (stack p P (stack m N W)) x) :
  ∃ a b c:Nat→Rat,∀ j,j < n→x j=(sm p fun i=>a i*P i j)+((sm m fun i=>b i*N i j)+sm w fun i=>c i*W i j):=by
 obtain ⟨c,h⟩:=h
 refine ⟨c,fun i=>c (p+i),fun i=>c (p+(m+i)),fun j hj=>?_⟩
 rw [h j hj,sm_app,sm_app]
 congr 1
 ·exact sm_congr fun k hk=>by rw [JW hk]
 ·congr 1
  ·exact sm_congr fun k hk=>by rw [Jd,JW hk]
  ·exact sm_congr fun k hk=>by rw [Jd,Jd]
theorem vM {n p m w:Nat} {A P N W:Mx Rat} {x a b c:Nat→Rat} (y:Nat→Rat) (h:∀ j,j < n→x j=(sm p fun i=>a i*P i j)+((sm m fun i=>b i*N i j)+sm w fun i=>c i*W i j)) :
  bl n A x y=(sm p fun i=>a i*bl n A (P i) y)+((sm m fun i=>b i*bl n A (N i) y)+sm w fun i=>c i*bl n A (W i) y):=by
 have e:∀ j,j < n→x j=(sm p fun i=>a i*P i j)+(1:Rat)*((sm m fun i=>b i*N i j)+(1:Rat)*sm w fun i=>c i*W i j):=fun j hj=>by
  rw [h j hj,Rat.one_mul,Rat.one_mul]
 rw [bl_congr (B:=A) (x':=fun j=>(sm p fun i=>a i*P i j)+(1:Rat)*((sm m fun i=>b i*N i j)+(1:Rat)*sm w fun i=>c i*W i j)) (y':=y) (fun _ _ _ _=>rfl) e (fun _ _=>rfl),
  QL,QL,Rat.one_mul,Rat.one_mul,VJ (T:=P) (r:=p) (c:=a) (fun _ _=>rfl),VJ (T:=N) (r:=m) (c:=b) (fun _ _=>rfl),VJ (T:=W) (r:=w) (c:=c) (fun _ _=>rfl)]
theorem Sig.le {n p m w p' m' w':Nat} {A P N W P' N' W':Mx Rat} (hA:∀ i j,i < n→j < n→A i j=A j i) (h:Sig n p m w A P N W) (h':Sig n p' m' w' A P' N' W'):p≤p':=by
 refine Classical.byContradiction fun hlt=>?_
 obtain ⟨x,⟨t,ht,hx⟩,hz⟩:=kernel_ne p' p (fun i j=>bl n A (P' i) (P j)) (by omega)
 obtain ⟨u,hu⟩:∃ u:Nat→Rat,u=fun j=>sm p fun i=>x i*P i j:=⟨_,rfl⟩
 have hpu:∀ i,i < p→bl n A (P i) u=x i*bl n A (P i) (P i):=fun i hi=>by
  rw [jw (T:=P) (r:=p) (c:=x) (fun j _=>by rw [hu])]
  exact sm_one i hi fun k hk hne=>by rw [h.po i k hi hk (Ne.symm hne),mul_zero]
 have hpos:0 < bl n A u u:=by
  rw [VJ (T:=P) (r:=p) (c:=x) (fun j _=>by rw [hu])]
  refine QcB (fun k hk=>?_) ht ?_
  ·rw [hpu k hk,← Rat.mul_assoc]
   exact Rat.mul_nonneg (sq_nonneg _) (Rat.le_of_lt (h.pp k hk))
  ·rw [hpu t ht,← Rat.mul_assoc]
   exact Rat.mul_pos (sq_pos hx) (h.pp t ht)
 obtain ⟨a,b,c,he⟩:=Qaj (h'.all u)
 have hP:∀ i,i < p'→bl n A (P' i) u=0:=fun i hi=>by
  rw [jw (T:=P) (r:=p) (c:=x) (fun j _=>by rw [hu])]
  rw [sm_congr fun k _=>mul_comm _ _]
  exact hz i hi
 have hN:∀ i,i < m'→bl n A (N' i) u=b i*bl n A (N' i) (N' i):=fun i hi=>by
  rw [bl_symm hA,vM _ he,sm_zero fun k hk=>by rw [h'.pn k i hk hi,mul_zero],zero_add,
   sm_zero (n:=w') fun k hk=>by rw [h'.wn k i hk hi,mul_zero],add_zero]
  exact sm_one i hi fun k hk hne=>by rw [h'.no k i hk hi hne,mul_zero]
 have hW:∀ i,i < w'→bl n A (W' i) u=0:=fun i hi=>by
  rw [bl_symm hA,vM _ he,sm_zero fun k hk=>by rw [bl_symm hA,h'.wp i k hi hk,mul_zero],zero_add,
   sm_zero (n:=m') fun k hk=>by rw [bl_symm hA,h'.wn i k hi hk,mul_zero],zero_add]
  exact sm_zero fun k hk=>by rw [h'.wo k i hk hi,mul_zero]
 have hneg:bl n A u u≤0:=by
  rw [vM u he,sm_zero fun k hk=>by rw [hP k hk,mul_zero],zero_add,sm_zero (n:=w') fun k hk=>by rw [hW k hk,mul_zero],add_zero]
  have:0 ≤ -(sm m' fun i=>b i*bl n A (N' i) u):=by
   rw [← jd]
   refine qQ fun k hk=>?_
   rw [hN k hk,← Rat.mul_assoc,← mul_neg]
   have:=h'.nn k hk
   exact Rat.mul_nonneg (sq_nonneg _) (by grind)
  grind
 grind
theorem Jf {n:Nat} {A:Mx Rat} {x y:Nat→Rat}:bl n (fun i j => -A i j) x y = -bl n A x y:=by
 unfold bl
 rw [← jd]
 refine sm_congr fun j _=>?_
 rw [← neg_mul,← jd]
 congr 1
 exact sm_congr fun i _=>mul_neg _ _
theorem Sig.neg {n p m w:Nat} {A P N W:Mx Rat} (hA:∀ i j,i < n→j < n→A i j=A j i) (h:Sig n p m w A P N W):Sig n m p w (fun i j => -A i j) N P W where
 pp:=fun i hi=>by rw [Jf]; have:=h.nn i hi; grind
 nn:=fun i hi=>by rw [Jf]; have:=h.pp i hi; grind
 po:=fun i j hi hj hne=>by rw [Jf,h.no i j hi hj hne,neg_zero]
 no:=fun i j hi hj hne=>by rw [Jf,h.po i j hi hj hne,neg_zero]
 wo:=fun i j hi hj=>by rw [Jf,h.wo i j hi hj,neg_zero]
 pn:=fun i j hi hj=>by rw [Jf,bl_symm hA,h.pn j i hj hi,neg_zero]
 wp:=fun i j hi hj=>by rw [Jf,h.wn i j hi hj,neg_zero]
 wn:=fun i j hi hj=>by rw [Jf,h.wp i j hi hj,neg_zero]
 all:=fun x=>by
  obtain ⟨a,b,c,h⟩:=Qaj (h.all x)
  refine ⟨fun i=>if i < m then b i else if i < m+p then a (i - m) else c (i - m - p),fun j hj=>?_⟩
  rw [h j hj,sm_app,sm_app,Ju]
  congr 1
  ·exact sm_congr fun k hk=>by rw [JW hk]; simp only [if_pos hk]
  ·congr 1
   ·exact sm_congr fun k hk=>by
     rw [Jd,JW hk]; simp only [if_neg (show ¬ m+k < m by omega),if_pos (show m+k < m+p by omega),show m+k - m=k by omega]
   ·exact sm_congr fun k hk=>by
     rw [Jd,Jd]; simp only [if_neg (show ¬ m+(p+k) < m by omega),if_neg (show ¬ m+(p+k) < m+p by omega),show m+(p+k) - m - p=k by omega]
theorem Sig.unique {n p m w p' m' w':Nat} {A P N W P' N' W':Mx Rat} (hA:∀ i j,i < n→j < n→A i j=A j i) (h:Sig n p m w A P N W) (h':Sig n p' m' w' A P' N' W'):p=p'∧m=m':=by
 have hB:∀ i j,i < n→j < n→(fun i j => -A i j) i j=(fun i j => -A i j) j i:=fun i j hi hj=>by show -A i j = -A j i; rw [hA i j hi hj]
 exact ⟨Nat.le_antisymm (h.le hA h') (h'.le hA h),Nat.le_antisymm ((h.neg hA).le hB (h'.neg hA)) ((h'.neg hA).le hB (h.neg hA))⟩
end Go.La

/- Vectors split off one after the other from a symmetric form. No condition. -/
namespace Go.La
structure Prt (n p m r:Nat) (A P N L:Mx Rat):Prop where
 pp:∀ i,i < p→0 < bl n A (P i) (P i)
 nn:∀ i,i < m→bl n A (N i) (N i) < 0
 po:∀ i j,i < p→j < p→i≠j→bl n A (P i) (P j)=0
 no:∀ i j,i < m→j < m→i≠j→bl n A (N i) (N j)=0
 pn:∀ i j,i < p→j < m→bl n A (P i) (N j)=0
 wp:∀ i j,i < r→j < p→bl n A (L i) (P j)=0
 wn:∀ i j,i < r→j < m→bl n A (L i) (N j)=0
 all:∀ x,Sp (p+(m+r)) n (stack p P (stack m N L)) x
theorem sp_p {n p m r i:Nat} {P N L:Mx Rat} (hi:i < p):Sp (p+(m+r)) n (stack p P (stack m N L)) (P i):=by
 have:=Sp.row (n:=n) (A:=stack p P (stack m N L)) (r:=p+(m+r)) (i:=i) (by omega)
 rwa [JW hi] at this
theorem sp_n {n p m r i:Nat} {P N L:Mx Rat} (hi:i < m):Sp (p+(m+r)) n (stack p P (stack m N L)) (N i):=by
 have:=Sp.row (n:=n) (A:=stack p P (stack m N L)) (r:=p+(m+r)) (i:=p+i) (by omega)
 rwa [Jd,JW hi] at this
theorem sp_w {n p m r i:Nat} {P N L:Mx Rat} (hi:i < r):Sp (p+(m+r)) n (stack p P (stack m N L)) (L i):=by
 have:=Sp.row (n:=n) (A:=stack p P (stack m N L)) (r:=p+(m+r)) (i:=p+(m+i)) (by omega)
 rwa [Jd,Jd] at this
end Go.La

/- A symmetric matrix made diagonal by congruences; numbers in place of vectors. No condition. -/
namespace Go.La
def cnt:Nat→(Nat→Bool)→Nat
 | 0,_=>0
 | n+1,d=>cnt n d+if d n then 1 else 0
def setb (d:Nat→Bool) (i:Nat):Nat→Bool:=fun r=>if r=i then true else d r
theorem setb_at {d:Nat→Bool} {i:Nat}:setb d i i=true:=if_pos rfl
theorem setb_ne {d:Nat→Bool} {i r:Nat} (h:r≠i):setb d i r=d r:=if_neg h
theorem cnt_le (d:Nat→Bool):∀ n,cnt n d≤n
 | 0=>Nat.le_refl 0
 | n+1=>by
  show cnt n d+(if d n then 1 else 0)≤n+1
  have:=cnt_le d n
  split<;>omega
theorem cnt_lt {d:Nat→Bool} {i:Nat} (h0:d i=false):∀ {n},i < n→cnt n d < n
 | 0,h=>absurd h (Nat.not_lt_zero i)
 | n+1,h=>by
  show cnt n d+(if d n then 1 else 0) < n+1
  by_cases e:i=n
  ·subst e
   rw [h0]
   have:=cnt_le d i
   simp; omega
  ·have:=cnt_lt h0 (n:=n) (by omega)
   split<;>omega
theorem cnt_congr {d e:Nat→Bool}:∀ {n},(∀ r,r < n→d r=e r)→cnt n d=cnt n e
 | 0,_=>rfl
 | n+1,h=>by
  show cnt n d+(if d n then 1 else 0)=cnt n e+(if e n then 1 else 0)
  rw [cnt_congr (n:=n) fun r hr=>h r (by omega),h n (by omega)]
theorem Qdv {d:Nat→Bool} {i:Nat} (h0:d i=false):∀ {n},i < n→cnt n (setb d i)=cnt n d+1
 | 0,h=>absurd h (Nat.not_lt_zero i)
 | n+1,h=>by
  show cnt n (setb d i)+(if setb d i n then 1 else 0)=cnt n d+(if d n then 1 else 0)+1
  by_cases e:i=n
  ·subst e
   rw [h0,setb_at,cnt_congr (d:=setb d i) (e:=d) fun r hr=>setb_ne (by omega)]
   simp
  ·rw [Qdv h0 (n:=n) (by omega),setb_ne (Ne.symm e)]
   omega
theorem jt:∀ n,cnt n (fun _=>false)=0
 | 0=>rfl
 | n+1=>by
  show cnt n (fun _=>false)+(if false then 1 else 0)=0
  rw [jt n]; rfl
structure Pdn (n p m:Nat) (A:Mx Rat) (dn:Nat→Bool) (L P N:Mx Rat):Prop where
 pp:∀ i,i < p→0 < bl n A (P i) (P i)
 nn:∀ i,i < m→bl n A (N i) (N i) < 0
 po:∀ i j,i < p→j < p→i≠j→bl n A (P i) (P j)=0
 no:∀ i j,i < m→j < m→i≠j→bl n A (N i) (N j)=0
 pn:∀ i j,i < p→j < m→bl n A (P i) (N j)=0
 don:∀ r,r < n→dn r=true→(∃ i,i < p∧P i=L r)∨∃ i,i < m∧N i=L r
 wp:∀ r j,r < n→dn r=false→j < p→bl n A (L r) (P j)=0
 wn:∀ r j,r < n→dn r=false→j < m→bl n A (L r) (N j)=0
 all:∀ x,Sp n n L x
 num:p+m=cnt n dn
theorem Pdn.start {n:Nat} {A P N:Mx Rat}:Pdn n 0 0 A (fun _=>false) idm P N where
 pp:=fun i h=>absurd h (Nat.not_lt_zero i)
 nn:=fun i h=>absurd h (Nat.not_lt_zero i)
 po:=fun i _ h=>absurd h (Nat.not_lt_zero i)
 no:=fun i _ h=>absurd h (Nat.not_lt_zero i)
 pn:=fun i _ h=>absurd h (Nat.not_lt_zero i)
 don:=fun _ _ h=>by cases h
 wp:=fun _ j _ _ h=>absurd h (Nat.not_lt_zero j)
 wn:=fun _ j _ _ h=>absurd h (Nat.not_lt_zero j)
 all:=QfY
 num:=(jt n).symm
theorem Pdn.sig {n p m:Nat} {A L P N:Mx Rat} {dn:Nat→Bool} (h:Pdn n p m A dn L P N) (hz:∀ r c,r < n→c < n→dn r=false→dn c=false→bl n A (L r) (L c)=0) :
  Sig n p m n A P N (fun r=>if dn r then fun _=>0 else L r) where
 pp:=h.pp
 nn:=h.nn
 po:=h.po
 no:=h.no
 pn:=h.pn
 wo:=fun i j hi hj=>by
  have z1:∀ x:Nat→Rat,bl n A (fun _=>0) x=0:=fun x=>sm_zero fun k _=>by rw [sm_zero fun _ _=>zero_mul _,zero_mul]
  have z2:∀ x:Nat→Rat,bl n A x (fun _=>0)=0:=fun x=>sm_zero fun k _=>mul_zero _
  cases e1:dn i with
  | true=>simp only [if_true]; exact z1 _
  | false =>
   cases e2:dn j with
   | true=>simp only [if_true]; exact z2 _
   | false=>simpa using hz i j hi hj e1 e2
 wp:=fun i j hi hj=>by
  cases e1:dn i with
  | true=>simp only [if_true]; exact sm_zero fun k _=>by rw [sm_zero fun _ _=>zero_mul _,zero_mul]
  | false=>simpa using h.wp i j hi e1 hj
 wn:=fun i j hi hj=>by
  cases e1:dn i with
  | true=>simp only [if_true]; exact sm_zero fun k _=>by rw [sm_zero fun _ _=>zero_mul _,zero_mul]
  | false=>simpa using h.wn i j hi e1 hj
 all:=fun x=>(h.all x).trans fun r hr=>by
  cases e1:dn r with
  | true =>
   rcases h.don r hr e1 with ⟨i,hi,e⟩ | ⟨i,hi,e⟩
   ·rw [← e]; exact sp_p hi
   ·rw [← e]; exact sp_n hi
  | false =>
   have:=sp_w (n:=n) (p:=p) (m:=m) (r:=n) (P:=P) (N:=N) (L:=fun r=>if dn r then fun _=>0 else L r) hr
   simpa only [e1,Bool.false_eq_true,if_false] using this
theorem Pdn.neg {n p m:Nat} {A L P N:Mx Rat} {dn:Nat→Bool} (hA:∀ i j,i < n→j < n→A i j=A j i) (h:Pdn n p m A dn L P N):Pdn n m p (fun i j => -A i j) dn L N P where
 pp:=fun i hi=>by rw [Jf]; have:=h.nn i hi; grind
 nn:=fun i hi=>by rw [Jf]; have:=h.pp i hi; grind
 po:=fun i j hi hj hne=>by rw [Jf,h.no i j hi hj hne,neg_zero]
 no:=fun i j hi hj hne=>by rw [Jf,h.po i j hi hj hne,neg_zero]
 pn:=fun i j hi hj=>by rw [Jf,bl_symm hA,h.pn j i hj hi,neg_zero]
 don:=fun r hr hd=>(h.don r hr hd).symm
 wp:=fun r j hr hd hj=>by rw [Jf,h.wn r j hr hd hj,neg_zero]
 wn:=fun r j hr hd hj=>by rw [Jf,h.wp r j hr hd hj,neg_zero]
 all:=h.all
 num:=by rw [Nat.add_comm]; exact h.num
theorem Pdn.congr {n p m:Nat} {A B L P N:Mx Rat} {dn:Nat→Bool} (h:Pdn n p m A dn L P N) (e:∀ i j,i < n→j < n→A i j=B i j):Pdn n p m B dn L P N:=by
 have e1:∀ x y,bl n B x y=bl n A x y:=fun x y=>(bl_congr e (fun _ _=>rfl) (fun _ _=>rfl)).symm
 exact ⟨fun i hi=>by rw [e1]; exact h.pp i hi,fun i hi=>by rw [e1]; exact h.nn i hi,fun i j hi hj hn=>by rw [e1]; exact h.po i j hi hj hn,fun i j hi hj hn=>by rw [e1]; exact h.no i j hi hj hn,
  fun i j hi hj=>by rw [e1]; exact h.pn i j hi hj,h.don,fun i j hi hd hj=>by rw [e1]; exact h.wp i j hi hd hj,fun i j hi hd hj=>by rw [e1]; exact h.wn i j hi hd hj,h.all,h.num⟩
def lk (dn:Nat→Bool) (L:Mx Rat) (f:Nat→Rat) (i k:Nat):Mx Rat:=fun r=>if r < k∧dn r=false then fun j=>L r j+f r*L i j else L r
theorem vo {dn:Nat→Bool} {L:Mx Rat} {f:Nat→Rat} {i k r:Nat} (h:r < k) (h0:dn r=false):lk dn L f i k r=fun j=>L r j+f r*L i j:=if_pos ⟨h,h0⟩
theorem lk_done {dn:Nat→Bool} {L:Mx Rat} {f:Nat→Rat} {i k r:Nat} (h0:dn r=true):lk dn L f i k r=L r:=if_neg fun h=>by rw [h0] at h; cases h.2
theorem lk_ge {dn:Nat→Bool} {L:Mx Rat} {f:Nat→Rat} {i k r:Nat} (h0:¬ r < k):lk dn L f i k r=L r:=if_neg fun h=>h0 h.1
theorem Pdn.pos {n p m i:Nat} {A L P N:Mx Rat} {dn:Nat→Bool} {f:Nat→Rat} (hA:∀ i j,i < n→j < n→A i j=A j i) (h:Pdn n p m A dn L P N) (hi:i < n) (h0:dn i=false) (hq:0 < bl n A (L i) (L i))
  (hf:∀ r,r < n→f r = -(bl n A (L r) (L i) / bl n A (L i) (L i))):Pdn n (p+1) m A (setb dn i) (lk (setb dn i) L f i n) (setr P p (L i)) N:=by
 have hq0:bl n A (L i) (L i)≠0:=fun e=>by rw [e] at hq; exact absurd hq (by decide)
 have hlt:∀ {j:Nat},j < p+1→j≠p→j < p:=fun h1 h2=>by omega
 have hd:∀ {r:Nat},setb dn i r=false→r≠i∧dn r=false:=fun {r} h1=>by
  by_cases e:r=i
  ·subst e; rw [setb_at] at h1; cases h1
  ·rw [setb_ne e] at h1; exact ⟨e,h1⟩
 have hL:∀ r,r < n→dn r=false→r≠i→lk (setb dn i) L f i n r=fun j=>L r j+f r*L i j:=fun r hr h1 hne=>vo hr (by rw [setb_ne hne,h1])
 have hLi:lk (setb dn i) L f i n i=L i:=lk_done setb_at
 refine ⟨fun j hj=>?_,h.nn,fun j k hj hk hne=>?_,h.no,fun j k hj hk=>?_,fun r hr h1=>?_,fun r j hr h1 hj=>?_,fun r j hr h1 hj=>?_,fun x=>?_,?_⟩
 ·by_cases e1:j=p
  ·subst e1; rw [Qq]; exact hq
  ·rw [setr_ne _ _ e1]; exact h.pp j (hlt hj e1)
 ·by_cases e1:j=p
  ·subst e1
   rw [Qq,setr_ne _ _ (Ne.symm hne)]
   exact h.wp i k hi h0 (hlt hk (Ne.symm hne))
  ·rw [setr_ne _ _ e1]
   by_cases e2:k=p
   ·subst e2
    rw [Qq,bl_symm hA]; exact h.wp i j hi h0 (hlt hj e1)
   ·rw [setr_ne _ _ e2]; exact h.po j k (hlt hj e1) (hlt hk e2) hne
 ·by_cases e1:j=p
  ·subst e1; rw [Qq]; exact h.wn i k hi h0 hk
  ·rw [setr_ne _ _ e1]; exact h.pn j k (hlt hj e1) hk
 ·rw [lk_done h1]
  by_cases e:r=i
  ·exact .inl ⟨p,by omega,by rw [Qq,e]⟩
  ·rw [setb_ne e] at h1
   rcases h.don r hr h1 with ⟨j,hj,h2⟩ | h2
   ·exact .inl ⟨j,by omega,by rw [setr_ne _ _ (by omega)]; exact h2⟩
   ·exact .inr h2
 ·obtain ⟨hne,h2⟩:=hd h1
  rw [hL r hr h2 hne,QL]
  by_cases e1:j=p
  ·subst e1
   rw [Qq,hf r hr,Rat.div_def,neg_mul,Rat.mul_assoc,Rat.inv_mul_cancel _ hq0,Rat.mul_one,QC]
  ·rw [setr_ne _ _ e1,h.wp r j hr h2 (hlt hj e1),h.wp i j hi h0 (hlt hj e1),mul_zero,add_zero]
 ·obtain ⟨hne,h2⟩:=hd h1
  rw [hL r hr h2 hne,QL,h.wn r j hr h2 hj,h.wn i j hi h0 hj,mul_zero,add_zero]
 ·refine (h.all x).trans fun r hr=>?_
  have h1:=Sp.row (n:=n) (A:=lk (setb dn i) L f i n) hr
  by_cases e:setb dn i r=true
  ·rw [lk_done e] at h1; exact h1
  ·have e2:=hd (Bool.eq_false_iff.2 e)
   rw [hL r hr e2.2 e2.1] at h1
   have h3:=Sp.row (n:=n) (A:=lk (setb dn i) L f i n) hi
   rw [hLi] at h3
   exact (h1.comb (-(f r)) h3).congr (fun _ _ _ _=>rfl) fun j _=>by
    show L r j+f r*L i j + -(f r)*L i j=L r j
    rw [neg_mul,add_assoc,QC,add_zero]
 ·rw [Qdv h0 hi,← h.num]; omega
theorem Pdn.negv {n p m i:Nat} {A L P N:Mx Rat} {dn:Nat→Bool} {f:Nat→Rat} (hA:∀ i j,i < n→j < n→A i j=A j i) (h:Pdn n p m A dn L P N) (hi:i < n) (h0:dn i=false) (hq:bl n A (L i) (L i) < 0)
  (hf:∀ r,r < n→f r = -(bl n A (L r) (L i) / bl n A (L i) (L i))):Pdn n p (m+1) A (setb dn i) (lk (setb dn i) L f i n) P (setr N m (L i)):=by
 have hB:∀ i j,i < n→j < n→(fun i j => -A i j) i j=(fun i j => -A i j) j i:=fun i j hi hj=>by show -A i j = -A j i; rw [hA i j hi hj]
 refine (Pdn.neg hB ((Pdn.neg hA h).pos (f:=f) hB hi h0 (by rw [Jf]; grind) (fun r hr=>?_))).congr fun i j _ _=>Yy _
 rw [Jf,Jf,hf r hr]
 have hq0:bl n A (L i) (L i)≠0:=fun e=>by rw [e] at hq; exact absurd hq (by decide)
 have hq1 : -bl n A (L i) (L i)≠0:=fun e=>hq0 (by rw [← Yy (bl n A (L i) (L i)),e,neg_zero])
 have hi:(-bl n A (L i) (L i))⁻¹ = -(bl n A (L i) (L i))⁻¹:=mul_left_can hq1 (by rw [mul_inv _ hq1,neg_mul,mul_neg,Yy,mul_inv _ hq0])
 rw [Rat.div_def,Rat.div_def,hi,neg_mul (bl n A (L r) (L i)),mul_neg,Yy]
theorem Pdn.mix {n p m i j:Nat} {A L P N:Mx Rat} {dn:Nat→Bool} (h:Pdn n p m A dn L P N) (hi:i < n) (hj:j < n) (hne:j≠i) (h1:dn i=false) (h2:dn j=false) :
  Pdn n p m A dn (setr L i (fun c=>L i c+(1:Rat)*L j c)) P N:=by
 refine ⟨h.pp,h.nn,h.po,h.no,h.pn,fun r hr hd=>?_,fun r k hr hd hk=>?_,fun r k hr hd hk=>?_,fun x=>(h.all x).trans fun r hr=>?_,h.num⟩
 ·rw [setr_ne _ _ (fun e=>by subst e; rw [h1] at hd; cases hd)]; exact h.don r hr hd
 ·by_cases e:r=i
  ·subst e; rw [Qq,QL,h.wp r k hr hd hk,h.wp j k hj h2 hk,mul_zero,add_zero]
  ·rw [setr_ne _ _ e]; exact h.wp r k hr hd hk
 ·by_cases e:r=i
  ·subst e; rw [Qq,QL,h.wn r k hr hd hk,h.wn j k hj h2 hk,mul_zero,add_zero]
  ·rw [setr_ne _ _ e]; exact h.wn r k hr hd hk
 ·have h3:=Sp.row (n:=n) (A:=setr L i (fun c=>L i c+(1:Rat)*L j c)) hr
  by_cases e:r=i
  ·subst e
   have h4:=Sp.row (n:=n) (A:=setr L r (fun c=>L r c+(1:Rat)*L j c)) hj
   rw [Qq] at h3
   rw [setr_ne _ _ hne] at h4
   exact (h3.comb (-1) h4).congr (fun _ _ _ _=>rfl) fun c _=>by
    show L r c+(1:Rat)*L j c+(-1:Rat)*L j c=L r c
    grind
  ·rwa [setr_ne _ _ e] at h3
def Gram (n:Nat) (A L G:Mx Rat):Prop:=∀ r c,r < n→c < n→G r c=bl n A (L r) (L c)
theorem Gram.start {n:Nat} {A:Mx Rat}:Gram n A idm A:=fun _ _ hr hc=>(Qdl hr hc).symm
def rop (G:Mx Rat) (i j:Nat) (t:Rat):Mx Rat:=fun r c=>if r=i then G i c+t*G j c else G r c
def cop (G:Mx Rat) (i j:Nat) (t:Rat):Mx Rat:=fun r c=>if c=i then G r i+t*G r j else G r c
theorem Gram.op {n i j:Nat} {A L G:Mx Rat} {t:Rat} (h:Gram n A L G) (hi:i < n) (hj:j < n) (hne:j≠i):Gram n A (setr L i (fun c=>L i c+t*L j c)) (cop (rop G i j t) i j t):=by
 have h1:∀ r c,r < n→c < n→rop G i j t r c=bl n A (setr L i (fun c=>L i c+t*L j c) r) (L c):=fun r c hr hc=>by
  unfold rop
  by_cases e:r=i
  ·subst e; rw [if_pos rfl,Qq,QL,h r c hr hc,h j c hj hc]
  ·rw [if_neg e,setr_ne _ _ e,h r c hr hc]
 intro r c hr hc
 unfold cop
 by_cases e:c=i
 ·subst e; rw [if_pos rfl,Qq,JY,h1 r c hr hc,h1 r j hr hj]
 ·rw [if_neg e,setr_ne _ _ e,h1 r c hr hc]
theorem Gram.congr {n:Nat} {A L L' G:Mx Rat} (h:Gram n A L G) (e:∀ r,r < n→∀ j,j < n→L r j=L' r j):Gram n A L' G:=fun r c hr hc=>by
 rw [h r c hr hc]; exact bl_congr (fun _ _ _ _=>rfl) (e r hr) (e c hc)
theorem Qcc {i k r:Nat} {dn:Nat→Bool} {L:Mx Rat} {f:Nat→Rat} (e:r≠k):lk dn L f i k r=lk dn L f i (k+1) r:=by
 by_cases e1:dn r=false
 ·by_cases e2:r < k
  ·rw [vo e2 e1,vo (by omega) e1]
  ·rw [lk_ge e2,lk_ge (by omega)]
 ·rw [lk_done (by simpa using e1),lk_done (by simpa using e1)]
theorem lk_next {n i k:Nat} {dn:Nat→Bool} {L:Mx Rat} {f:Nat→Rat} (h:dn k=false) (hi:dn i=true):∀ r,r < n→∀ j,j < n→setr (lk dn L f i k) k (fun c=>lk dn L f i k k c+f k*lk dn L f i k i c) r j=lk dn L f i (k+1) r j:=fun r _ j _=>by
 by_cases e:r=k
 ·subst e; rw [Qq,lk_ge (Nat.lt_irrefl r),lk_done hi,vo (by omega) h]
 ·rw [setr_ne _ _ e]
  rw [Qcc e]
theorem lk_pass {n i k:Nat} {dn:Nat→Bool} {L:Mx Rat} {f:Nat→Rat} (h:dn k=true∨f k=0):∀ r,r < n→∀ j,j < n→lk dn L f i k r j=lk dn L f i (k+1) r j:=fun r _ j _=>by
 by_cases e:r=k
 ·subst e
  rw [lk_ge (Nat.lt_irrefl r)]
  rcases h with h | h
  ·rw [lk_done h]
  ·by_cases e2:dn r=false
   ·rw [vo (by omega) e2]
    show L r j=L r j+f r*L i j
    rw [h,zero_mul,add_zero]
   ·rw [lk_done (by simpa using e2)]
 ·rw [Qcc e]
theorem lk_vals {n i k r c:Nat} {A L:Mx Rat} {dn:Nat→Bool} {f:Nat→Rat} (hq:bl n A (L i) (L i)≠0)
  (hf:∀ r,r < n→f r = -(bl n A (L r) (L i) / bl n A (L i) (L i))) (hr:r < n):bl n A (lk dn L f i k r) (lk dn L f i k c)=bl n A (L r) (L c) ∨
   bl n A (lk dn L f i k r) (lk dn L f i k c)=bl n A (L r) (L c)+f r*bl n A (L i) (L c)∨bl n A (lk dn L f i k r) (lk dn L f i k c)=bl n A (L r) (L c)+f c*bl n A (L r) (L i):=by
 have hz:∀ r,r < n→bl n A (L r) (L i)+f r*bl n A (L i) (L i)=0:=fun r hr=>by
  rw [hf r hr,Rat.div_def,neg_mul,Rat.mul_assoc,Rat.inv_mul_cancel _ hq,Rat.mul_one,QC]
 unfold lk
 by_cases e1:r < k∧dn r=false
 ·rw [if_pos e1,QL]
  by_cases e2:c < k∧dn c=false
  ·rw [if_pos e2,JY,JY]
   refine .inr (.inl ?_)
   have:=hz r hr
   have e3:f r*(f c*bl n A (L i) (L i))=f c*(f r*bl n A (L i) (L i)):=mul_left_comm _ _ _
   rw [mul_add,e3]
   have e4:f c*(bl n A (L r) (L i)+f r*bl n A (L i) (L i))=0:=by rw [this,mul_zero]
   rw [mul_add] at e4
   grind
  ·rw [if_neg e2]; exact .inr (.inl rfl)
 ·rw [if_neg e1]
  by_cases e2:c < k∧dn c=false
  ·rw [if_pos e2,JY]; exact .inr (.inr rfl)
  ·rw [if_neg e2]; exact .inl rfl
end Go.La

/- Signatures: sizes, and one step of the elimination. No condition. -/
namespace Go.Proofs.YthnnlgjlhnmhnaaGreat
open Go.Hp
def sgb (b:Nat):Nat→Nat
 | 0=>b
 | k+1=>16*sgb b k+13
theorem QbK {b k:Nat}:sgb b (k+1)=16*sgb b k+13:=rfl
theorem QiI {b k l:Nat} (h:k≤l):sgb b k≤sgb b l:=by
 induction l with
 | zero => obtain rfl : k = 0 := by omega
           exact Nat.le_refl _
 | succ l ih =>
  by_cases e:k=l+1
  ·subst e; exact Nat.le_refl _
  ·have:=ih (by omega)
   rw [QbK]; omega
theorem QiT {n i j s:Nat} {A:Nat→Nat→Rat} (hs:∀ a c,a < n→c < n→Szq (A a c) s) (hi:i < n) (hj:j < n):∀ a c,a < n→c < n→Szq (La.cop (La.rop A i j 1) i j 1 a c) (4*s+3):=by
 have h1:∀ a c,a < n→c < n→Szq (La.rop A i j 1 a c) (2*s+1):=fun a c ha hc=>by
  unfold La.rop
  split
  ·rw [Rat.one_mul]; exact ((hs i c hi hc).add (hs j c hj hc)).mono (by omega)
  ·exact (hs a c ha hc).mono (by omega)
 intro a c ha hc
 unfold La.cop
 split
 ·rw [Rat.one_mul]; exact ((h1 a i ha hi).add (h1 a j ha hj)).mono (by omega)
 ·exact (h1 a c ha hc).mono (by omega)
theorem Qjn {n i k s:Nat} {A0 A L:Nat→Nat→Rat} {dn:Nat→Bool} {f:Nat→Rat} (hg:La.Gram n A0 L A) (hs:∀ a c,a < n→c < n→Szq (A a c) s) (hi:i < n) (h0:A i i≠0) (hf:∀ r,r < n→f r = -(A r i / A i i)) :
  ∀ r c,r < n→c < n→Szq (La.bl n A0 (La.lk dn L f i k r) (La.lk dn L f i k c)) (4*s+1):=fun r c hr hc=>by
 have sf:∀ r,r < n→Szq (f r) (2*s):=fun r hr=>by
  rw [hf r hr]; exact (((hs r i hr hi).div (hs i i hi hi)).neg).mono (by omega)
 rcases La.lk_vals (A:=A0) (L:=L) (dn:=dn) (f:=f) (i:=i) (k:=k) (r:=r) (c:=c) (by rw [← hg i i hi hi]; exact h0) (fun r hr=>by rw [← hg r i hr hi,← hg i i hi hi]; exact hf r hr) hr with h | h | h
 ·rw [h,← hg r c hr hc]; exact (hs r c hr hc).mono (by omega)
 ·rw [h,← hg r c hr hc,← hg i c hi hc]
  exact ((hs r c hr hc).add ((sf r hr).mul (hs i c hi hc))).mono (by omega)
 ·rw [h,← hg r c hr hc,← hg r i hr hi]
  exact ((hs r c hr hc).add ((sf c hc).mul (hs r i hr hi))).mono (by omega)
def Turned (n:Nat) (dn:Nat→Bool) (A:Nat→Nat→Rat) (t:Int):Prop :=
 (t = -1∧∀ r c,r < n→c < n→dn r=false→dn c=false→A r c=0)∨∃ i:Nat,t=(i:Int)∧i < n∧dn i=false∧A i i≠0
theorem QdX {n p m s:Nat} {A0 A A' L P N:Nat→Nat→Rat} {dn:Nat→Bool} {t:Int} (hA:∀ i j,i < n→j < n→A0 i j=A0 j i) (hg:La.Gram n A0 L A) (h:La.Pdn n p m A0 dn L P N) (hs:∀ a c,a < n→c < n→Szq (A a c) s)
  (ht:(t = -1∧A'=A∧(∀ i,i < n→dn i=false→A i i=0)∧∀ i j,i < n→j < i→dn i=false→dn j=false→A i j=0) ∨
    ∃ i:Nat,t=(i:Int)∧i < n∧dn i=false∧((A'=A∧A i i≠0)∨∃ j,j < i∧dn j=false∧A i i=0∧A j j=0∧A i j≠0∧A'=La.cop (La.rop A i j 1) i j 1)) :
  ∃ L',La.Gram n A0 L' A'∧La.Pdn n p m A0 dn L' P N∧(∀ a c,a < n→c < n→Szq (A' a c) (4*s+3))∧Turned n dn A' t:=by
 have hsy:∀ r c,r < n→c < n→A r c=A c r:=fun r c hr hc=>by rw [hg r c hr hc,hg c r hc hr,La.bl_symm hA]
 rcases ht with ⟨rfl,rfl,h1,h2⟩ | ⟨i,rfl,hi,hd,⟨rfl,h1⟩ | ⟨j,hj,hdj,h1,h2,h3,rfl⟩⟩
 ·refine ⟨L,hg,h,fun a c ha hc=>(hs a c ha hc).mono (by omega),.inl ⟨rfl,fun r c hr hc hdr hdc=>?_⟩⟩
  rcases Nat.lt_trichotomy c r with h3 | h3 | h3
  ·exact h2 r c hr h3 hdr hdc
  ·subst h3; exact h1 c hc hdc
  ·rw [hsy r c hr hc]; exact h2 c r hc h3 hdc hdr
 ·exact ⟨L,hg,h,fun a c ha hc=>(hs a c ha hc).mono (by omega),.inr ⟨i,rfl,hi,hd,h1⟩⟩
 ·have hjn:j < n:=by omega
  refine ⟨_,hg.op hi hjn (by omega),h.mix hi hjn (by omega) hd hdj,QiT hs hi hjn,.inr ⟨i,rfl,hi,hd,?_⟩⟩
  have e1:La.cop (La.rop A i j 1) i j 1 i i=(A i i+1*A j i)+1*(A i j+1*A j j):=by
   unfold La.cop
   rw [if_pos rfl]
   unfold La.rop
   rw [if_pos rfl,if_pos rfl]
  rw [e1,h1,h2,hsy j i hjn hi]
  intro e
  apply h3
  grind
theorem QfM {n p m i:Nat} {A0 A L P N:Nat→Nat→Rat} {dn:Nat→Bool} {f:Nat→Rat} (hA:∀ i j,i < n→j < n→A0 i j=A0 j i) (hg:La.Gram n A0 L A) (h:La.Pdn n p m A0 dn L P N) (hi:i < n) (hd:dn i=false) (hf:∀ r,r < n→f r = -(A r i / A i i)) :
  (0 < A i i→La.Pdn n (p+1) m A0 (La.setb dn i) (La.lk (La.setb dn i) L f i n) (La.setr P p (L i)) N) ∧
  (A i i < 0→La.Pdn n p (m+1) A0 (La.setb dn i) (La.lk (La.setb dn i) L f i n) P (La.setr N m (L i))):=by
 have hf2:∀ r,r < n→f r = -(La.bl n A0 (L r) (L i) / La.bl n A0 (L i) (L i)):=fun r hr=>by rw [← hg r i hr hi,← hg i i hi hi]; exact hf r hr
 exact ⟨fun h0=>h.pos hA hi hd (by rw [← hg i i hi hi]; exact h0) hf2,fun h0=>h.negv hA hi hd (by rw [← hg i i hi hi]; exact h0) hf2⟩
end Go.Proofs.YthnnlgjlhnmhnaaGreat

/- Signatures by splitting off: sizes. No condition. -/
namespace Go.Proofs.YthnnlgjlhnmhnaaGreat
open Go.Hp
end Go.Proofs.YthnnlgjlhnmhnaaGreat
