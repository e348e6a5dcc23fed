/- Texts of this seat's own, merged: each begins with its own remark. -/
import Derived.Test.YthnnlgjlhnmhnaaGreatM51
import Derived.Test.YthnnlgjlhnmhnaaGreatM96
import Derived.Test.YthnnlgjlhnmhnaaGreatHw
import Derived.Test.YthnnlgjlhnmhnaaGreatM35
/- Walk of theta.each: a step for each vector of a box. -/
namespace Go.Proofs.YthnnlgjlhnmhnaaGreat
open Go.Hp
variable {G:World} {U U':UH} {M:MH}
def rp (n:Nat) (f:Nat→Int) (x:Nat→Int) (a k:Nat):Int:=Lr.sm k fun j=>f (a*n+j)*x j
def qp (n:Nat) (f:Nat→Int) (x:Nat→Int) (i:Nat):Int:=Lr.sm i fun a=>x a*rp n f x a n
def qv (n:Nat) (f:Nat→Int) (x:Nat→Int):Int:=(qp n f x n).tdiv 2
theorem qN {c:Int}:∀ {n:Nat} {f:Nat→Int},(∀ j,j < n → -c≤f j∧f j≤c) → -(n*c)≤Lr.sm n f∧Lr.sm n f≤n*c
 | 0,_,_=>by show -((0:Nat)*c)≤0∧(0:Int)≤(0:Nat)*c; omega
 | n+1,f,h=>by
  have h1:=qN (n:=n) (f:=f) fun j hj=>h j (by omega)
  have h2:=h n (by omega)
  have e:((n+1:Nat):Int)*c=n*c+c:=by rw [Int.natCast_add,Int.add_mul]; omega
  rw [e]
  show -(_+c)≤Lr.sm n f+f n∧Lr.sm n f+f n≤_+c
  omega
theorem qh {a b c d:Int} (h1 : -c≤a∧a≤c) (h2 : -d≤b∧b≤d) : -(c*d)≤a*b∧a*b≤c*d:=by
 have e:(a*b).natAbs≤c.natAbs*d.natAbs:=by rw [Int.natAbs_mul]; exact Nat.mul_le_mul (by omega) (by omega)
 have e2:c*d=((c.natAbs*d.natAbs:Nat):Int):=by rw [Int.natCast_mul,Int.natAbs_of_nonneg (by omega),Int.natAbs_of_nonneg (by omega)]
 rw [e2]; omega
theorem QdC {n:Nat} {f x:Nat→Int} {a k:Nat} (hn:n≤8) (ha:a < n) (hk:k≤n) (hb:∀ k,k < n*n → -1000≤f k∧f k≤1000) (hx:∀ i,i < n → -1048576≤x i∧x i≤1048576) : -8388608000≤rp n f x a k∧rp n f x a k≤8388608000:=by
 have h:=qN (c:=1000*1048576) (n:=k) (f:=fun j=>f (a*n+j)*x j) fun j hj=>qh (hb _ (Ym ha (by omega))) (hx j (by omega))
 have h2:((k:Nat):Int)*(1000*1048576)≤8*(1000*1048576):=Int.mul_le_mul_of_nonneg_right (by omega) (by decide)
 unfold rp
 omega
theorem Qdf {n:Nat} {f x:Nat→Int} {i:Nat} (hn:n≤8) (hi:i≤n) (hb:∀ k,k < n*n → -1000≤f k∧f k≤1000) (hx:∀ i,i < n → -1048576≤x i∧x i≤1048576) : -70368744177664000≤qp n f x i∧qp n f x i≤70368744177664000:=by
 have h:=qN (c:=1048576*8388608000) (n:=i) (f:=fun a=>x a*rp n f x a n) fun j hj=>qh (hx j (by omega)) (QdC hn (by omega) (Nat.le_refl n) hb hx)
 have h2:((i:Nat):Int)*(1048576*8388608000)≤8*(1048576*8388608000):=Int.mul_le_mul_of_nonneg_right (by omega) (by decide)
 unfold qp
 omega
theorem QbF {z:Int}:(z.tdiv 2).natAbs≤z.natAbs:=by rw [Int.natAbs_tdiv]; exact Nat.div_le_self _ _
def Stp (c:Nat) (cs:List Value) (G:World) (U:UH) (n:Nat) (f:Nat→Int) (b:Nat→Nat) (I:Nat→UH→MH→Prop):Prop :=
 ∀ k U1 L E px cx xs,k < Bx.all b n→ULe U U1→I k U1 L→RowAt U1 E 1 px n xs→El Vz U1 xs (Bx.vec b n k) →
  Cx Tryz.prog c ([.slice px n cx,.int .i64 (qv n f (Bx.vec b n k))]++cs) G U1 (E++L) fun _ U2 M2=>∃ L2,M2=E++L2∧I (k+1) U2 L2
theorem QbU {n cg cb:Nat} {p pb:Option Addr} {vs bs:List Value} {f:Nat→Int} {b:Nat→Nat} {c:Nat} {cs:List Value} {I:Nat→UH→MH→Prop} (rw1:RowAt U [] 1 p (n*n) vs) (el:El Vz U vs f) (hb:∀ k,k < n*n → -1000≤f k∧f k≤1000)
  (rw2:RowAt U [] 1 pb n bs) (el2:El Vz U bs fun i=>(b i:Int)) (hbb:∀ i,i < n→b i≤1048576) (h1n:1≤n) (hn:n≤8) (hst:Stp c cs G U n f b I) (h0:I 0 U M) :
  Cx Tryz.prog 67 [.agg #[.int .i64 (n:Int),.slice p (n*n) cg],.slice pb n cb,.func (.func c) #[] cs.toArray] G U M fun _ U' M'=>I (Bx.all b n) U' M':=by
 have hnn:n*n≤8*8:=Nat.mul_le_mul hn hn
 refine JX Tryz.func67 rfl rfl rfl rfl ?_
 repeat (first|refine Qc ?_|refine Qa fun _=>?_|refine w_al fun _=>?_)
 rename_i b3
 refine QQ (m:=n) (n:=n) sym rfl rfl rfl rfl rfl rfl rfl rfl rfl (Nat.le_refl n) (by omega) (by omega) rfl rfl rfl rfl (fun b6=>?_)
 have hrow:=Jk (e:=TInt) (s:=1) (b:=b6) (n:=n) (z := .int .i64 0) rfl (by omega)
 try refine Qb ?_
 refine Yu (M':=(b3,.var (.agg #[.int .i64 (n:Int),.slice p (n*n) cg]),24)::([(b6,.arr (List.replicate n (.int .i64 0)),TInt)]++M)) pgs ?_
 generalize List.replicate n (Value.int .i64 0)=xs0 at hrow ⊢
 generalize [(b6,Blk.arr xs0,TInt)]=D0 at hrow ⊢
 have wneg:∀ a,a < n→IntKind.i64.wrap (0 - ((b a:Nat):Int)) = -((b a:Nat):Int):=fun a ha=>by
  have:=hbb a ha
  rw [IntWalk.i64_in _ (by omega)]; omega
 try refine Qu (M':=(b3,.var (.agg #[.int .i64 (n:Int),.slice p (n*n) cg]),24)::(D0++M)) (ULe.refl _) sbk ?_
 refine Ql (fun z E U' M'=>∃ (i:Nat) (xs:List Value) (Dx:MH),i≤n∧RowO TInt 1 Dx (some ⟨b6,0,none⟩) n n xs∧(∀ a,a < i→xs[a]?=some (.int .i64 (-(b a:Int))))∧U=U'∧E=[(20,.int .i64 (i:Int)),(19,.int .i64 (n:Int)),(6,.slice (some ⟨b6,0,none⟩) n n),(3,.pointer (some ⟨b3,0,none⟩)),(2,.func (.func c) #[] cs.toArray),(1,.slice pb n cb)]∧ULe U U'∧M'=(b3,.var (.agg #[.int .i64 (n:Int),.slice p (n*n) cg]),24)::(Dx++M)∧z=n - i) (n0:=n - 0) (E0:=[(20,.int .i64 ((0:Nat):Int)),(19,.int .i64 (n:Int)),(6,.slice (some ⟨b6,0,none⟩) n n),(3,.pointer (some ⟨b3,0,none⟩)),(2,.func (.func c) #[] cs.toArray),(1,.slice pb n cb)]) ⟨rfl,rfl,rfl,rfl,rfl,rfl,trivial⟩ ⟨0,xs0,D0,by omega,hrow,(fun a h=>absurd h (Nat.not_lt_zero a)),rfl,rfl,uc,rfl,rfl⟩ ?_
 clear hrow
 rintro z E U1 M' ⟨i,xs,Dx,hi,hrow,hxs,rfl,rfl,hU1,rfl,rfl⟩
 try refine Qb ?_
 refine Qi rfl (fun h=>?_) (fun h=>?_)
 ·have hin:i < n:=by omega
  have hbi:=hbb i hin
  obtain ⟨v1,hv1⟩:=rw2.at hin
  obtain ⟨hv,hz⟩:=el2 _ _ hv1
  obtain rfl:v1 = .int .i64 ((b i:Nat):Int):=hv
  try refine Qb ?_
  refine sl_y (Qf sym rfl rfl rfl rfl rfl rfl ((rw2.up uc sb).lt hv1) ((rw2.up uc sb).get _ _ hv1).1) rfl rfl rfl rfl ?_; refine sl_y (Qk sym rfl rfl rfl rfl (rw2.up uc sb) hv1 rfl) rfl rfl rfl rfl ?_
  try refine Qb ?_
  rw [wneg i hin]
  refine QB (j:=i) hin rfl ?_
  refine QG (v := .int .i64 (-(b i:Int))) (X:=(b3,.var (.agg #[.int .i64 (n:Int),.slice p (n*n) cg]),24)::M) hrow pgs hin (fun D3 hr3=>?_)
  refine Qj (M':=(b3,.var (.agg #[.int .i64 (n:Int),.slice p (n*n) cg]),24)::(D3++M)) ?_ pgs
  try refine Qb ?_
  have hlen:=hrow.len.1
  refine Qg (E':=[(20,.int .i64 ((i:Int)+1)),(19,.int .i64 (n:Int)),(6,.slice (some ⟨b6,0,none⟩) n n),(3,.pointer (some ⟨b3,0,none⟩)),(2,.func (.func c) #[] cs.toArray),(1,.slice pb n cb)]) (m:=n - (i+1)) ⟨rfl,rfl,rfl,rfl,rfl,rfl,trivial⟩ (by omega) ⟨i+1,xs.set i (.int .i64 (-(b i:Int))),D3,by omega,hr3,(fun a ha=>by
   by_cases e:a=i
   ·rw [e,List.getElem?_set_self (by omega)]
   ·rw [List.getElem?_set_ne (fun h=>e h.symm)]; exact hxs a (by omega)),rfl,rfl,uc,rfl,rfl⟩
 obtain rfl:n=i:=by omega
 have hex:El Vz U xs (Bx.vec b n 0):=fun a x ha=>by
  have hai:a < n:=by
   have:=(List.getElem?_eq_some_iff.1 ha).1
   have:=hrow.len.1
   omega
  have hba:=hbb a hai
  have:=hxs a hai
  rw [ha] at this
  cases this
  exact ⟨by rw [Bx.vec_zero],by rw [Bx.vec_zero]; omega⟩
 clear hxs h
 try refine Qb ?_
 try refine Qu (M':=(b3,.var (.agg #[.int .i64 (n:Int),.slice p (n*n) cg]),24)::(Dx++M)) (ULe.refl _) sbk ?_
 refine Ql (fun z E U' M'=>∃ (k:Nat) (xs:List Value) (Dx L:MH),k < Bx.all b n∧RowO TInt 1 Dx (some ⟨b6,0,none⟩) n n xs∧El Vz U' xs (Bx.vec b n k)∧I k U' L∧E=[(6,.slice (some ⟨b6,0,none⟩) n n),(3,.pointer (some ⟨b3,0,none⟩)),(2,.func (.func c) #[] cs.toArray),(1,.slice pb n cb)]∧ULe U U'∧M'=(b3,.var (.agg #[.int .i64 (n:Int),.slice p (n*n) cg]),24)::(Dx++L)∧z=Bx.all b n - k) (n0:=Bx.all b n - 0) (E0:=[(6,.slice (some ⟨b6,0,none⟩) n n),(3,.pointer (some ⟨b3,0,none⟩)),(2,.func (.func c) #[] cs.toArray),(1,.slice pb n cb)]) ⟨rfl,rfl,rfl,rfl,trivial⟩ ⟨0,xs,Dx,M,Bx.vol_pos _ _ _,hrow,hex,h0,rfl,uc,rfl,rfl⟩ ?_
 clear hrow hex h0
 rintro z E U2 M' ⟨k,xs,Dx,L,hk,hrow,hex,hI,rfl,hU2,rfl,rfl⟩
 try refine Qb ?_
 have hxb:∀ a,a < n → -1048576≤Bx.vec b n k a∧Bx.vec b n k a≤1048576:=fun a ha=>by
  have:=hbb a ha
  have:=Bx.vec_le b n k a
  omega
 have rX:=hrow.at (U:=U2) (M:=(b3,.var (.agg #[.int .i64 (n:Int),.slice p (n*n) cg]),24)::(Dx++L)) sb
 try refine Qu (M':=(b3,.var (.agg #[.int .i64 (n:Int),.slice p (n*n) cg]),24)::(Dx++L)) (ULe.refl _) sbk ?_
 refine Ql (fun z E U' M'=>∃ (i:Nat),i≤n∧U2=U'∧E=[(34,.int .i64 (i:Int)),(33,.int .i64 (n:Int)),(32,.slice (some ⟨b6,0,none⟩) n n),(8,.int .i64 (qp n f (Bx.vec b n k) i)),(6,.slice (some ⟨b6,0,none⟩) n n),(3,.pointer (some ⟨b3,0,none⟩)),(2,.func (.func c) #[] cs.toArray),(1,.slice pb n cb)]∧ULe U2 U'∧M'=(b3,.var (.agg #[.int .i64 (n:Int),.slice p (n*n) cg]),24)::(Dx++L)∧z=n - i) (n0:=n - 0) (E0:=[(34,.int .i64 ((0:Nat):Int)),(33,.int .i64 (n:Int)),(32,.slice (some ⟨b6,0,none⟩) n n),(8,.int .i64 (qp n f (Bx.vec b n k) 0)),(6,.slice (some ⟨b6,0,none⟩) n n),(3,.pointer (some ⟨b3,0,none⟩)),(2,.func (.func c) #[] cs.toArray),(1,.slice pb n cb)]) ⟨rfl,rfl,rfl,rfl,rfl,rfl,rfl,rfl,trivial⟩ ⟨0,by omega,rfl,rfl,uc,rfl,rfl⟩ ?_
 rintro z E U3 M' ⟨i,hi,rfl,rfl,hU3,rfl,rfl⟩
 try refine Qb ?_
 refine Qi rfl (fun h=>?_) (fun h=>?_)
 ·have hin:i < n:=by omega
  obtain ⟨v1,hv1⟩:=rX.at hin
  obtain ⟨hv,hz⟩:=hex _ _ hv1
  subst hv
  try refine Qb ?_
  refine sl_y (Qf sym rfl rfl rfl rfl rfl rfl (rX.lt hv1) (rX.get _ _ hv1).1) rfl rfl rfl rfl ?_; refine sl_y (Qk sym rfl rfl rfl rfl rX hv1 rfl) rfl rfl rfl rfl ?_
  try refine Qb ?_
  try refine Qu (M':=(b3,.var (.agg #[.int .i64 (n:Int),.slice p (n*n) cg]),24)::(Dx++L)) (ULe.refl _) sbk ?_
  refine Ql (fun z E U' M'=>∃ (j:Nat),j≤n∧U2=U'∧E=[(41,.int .i64 (j:Int)),(40,.int .i64 (n:Int)),(39,.slice (some ⟨b6,0,none⟩) n n),(11,.int .i64 (rp n f (Bx.vec b n k) i j)),(10,.int .i64 ((Bx.vec b n k) i)),(9,.int .i64 (i:Int)),(34,.int .i64 (i:Int)),(33,.int .i64 (n:Int)),(32,.slice (some ⟨b6,0,none⟩) n n),(8,.int .i64 (qp n f (Bx.vec b n k) i)),(6,.slice (some ⟨b6,0,none⟩) n n),(3,.pointer (some ⟨b3,0,none⟩)),(2,.func (.func c) #[] cs.toArray),(1,.slice pb n cb)]∧ULe U2 U'∧M'=(b3,.var (.agg #[.int .i64 (n:Int),.slice p (n*n) cg]),24)::(Dx++L)∧z=n - j) (n0:=n - 0) (E0:=[(41,.int .i64 ((0:Nat):Int)),(40,.int .i64 (n:Int)),(39,.slice (some ⟨b6,0,none⟩) n n),(11,.int .i64 (rp n f (Bx.vec b n k) i 0)),(10,.int .i64 ((Bx.vec b n k) i)),(9,.int .i64 (i:Int)),(34,.int .i64 (i:Int)),(33,.int .i64 (n:Int)),(32,.slice (some ⟨b6,0,none⟩) n n),(8,.int .i64 (qp n f (Bx.vec b n k) i)),(6,.slice (some ⟨b6,0,none⟩) n n),(3,.pointer (some ⟨b3,0,none⟩)),(2,.func (.func c) #[] cs.toArray),(1,.slice pb n cb)]) ⟨rfl,rfl,rfl,rfl,rfl,rfl,rfl,rfl,rfl,rfl,rfl,rfl,rfl,rfl,trivial⟩ ⟨0,by omega,rfl,rfl,uc,rfl,rfl⟩ ?_
  rintro z E U4 M' ⟨j,hj,rfl,rfl,hU4,rfl,rfl⟩
  try refine Qb ?_
  refine Qi rfl (fun h2=>?_) (fun h2=>?_)
  ·have hjn:j < n:=by omega
   obtain ⟨v2,hv2⟩:=rX.at hjn
   obtain ⟨hv,hz2⟩:=hex _ _ hv2
   subst hv
   obtain ⟨v3,hv3⟩:=rw1.at (Ym hin hjn)
   obtain ⟨hv,hz3⟩:=el _ _ hv3
   subst hv
   have hl:=Ym hin hjn
   have r1:=QdC hn hin (show j≤n by omega) hb hxb
   have r2:=QdC hn hin (show j+1≤n by omega) hb hxb
   have m1:=qh (hb _ hl) (hxb j hjn)
   have e1:rp n f (Bx.vec b n k) i (j+1)=rp n f (Bx.vec b n k) i j+f (i*n+j)*(Bx.vec b n k) j:=rfl
   try refine Qb ?_
   refine sl_y (Qf sym rfl rfl rfl rfl rfl rfl (rX.lt hv2) (rX.get _ _ hv2).1) rfl rfl rfl rfl ?_; refine sl_y (Qk sym rfl rfl rfl rfl rX hv2 rfl) rfl rfl rfl rfl ?_
   try refine Qb ?_
   refine sl_y (Qf sym rfl rfl rfl rfl rfl ( (show _=((i*n+j:Nat):Int) by omega)) ((rw1.up uc sb).lt hv3) ((rw1.up uc sb).get _ _ hv3).1) rfl rfl rfl rfl ?_; refine sl_y (Qk sym rfl rfl rfl rfl (rw1.up uc sb) hv3 rfl) rfl rfl rfl rfl ?_
   try refine Qb ?_
   exact Qg (E':=[(41,.int .i64 ((j:Int)+1)),(40,.int .i64 (n:Int)),(39,.slice (some ⟨b6,0,none⟩) n n),(11,.int .i64 (rp n f (Bx.vec b n k) i (j+1))),(10,.int .i64 ((Bx.vec b n k) i)),(9,.int .i64 (i:Int)),(34,.int .i64 (i:Int)),(33,.int .i64 (n:Int)),(32,.slice (some ⟨b6,0,none⟩) n n),(8,.int .i64 (qp n f (Bx.vec b n k) i)),(6,.slice (some ⟨b6,0,none⟩) n n),(3,.pointer (some ⟨b3,0,none⟩)),(2,.func (.func c) #[] cs.toArray),(1,.slice pb n cb)]) (m:=n - (j+1)) ⟨rfl,rfl,rfl,rfl,rfl,rfl,rfl,rfl,rfl,rfl,rfl,rfl,rfl,rfl,trivial⟩ (by omega) ⟨j+1,by omega,rfl,rfl,uc,rfl,rfl⟩
  ·obtain rfl:n=j:=by omega
   have r1:=QdC hn hin (Nat.le_refl n) hb hxb
   have m1:=qh (hxb i hin) r1
   have q1:=Qdf hn (show i≤n by omega) hb hxb
   have q2:=Qdf hn (show i+1≤n by omega) hb hxb
   have e1:qp n f (Bx.vec b n k) (i+1)=qp n f (Bx.vec b n k) i+(Bx.vec b n k) i*rp n f (Bx.vec b n k) i n:=rfl
   try refine Qb ?_
   exact Qg (E':=[(34,.int .i64 ((i:Int)+1)),(33,.int .i64 (n:Int)),(32,.slice (some ⟨b6,0,none⟩) n n),(8,.int .i64 (qp n f (Bx.vec b n k) (i+1))),(6,.slice (some ⟨b6,0,none⟩) n n),(3,.pointer (some ⟨b3,0,none⟩)),(2,.func (.func c) #[] cs.toArray),(1,.slice pb n cb)]) (m:=n - (i+1)) ⟨rfl,rfl,rfl,rfl,rfl,rfl,rfl,rfl,trivial⟩ (by omega) ⟨i+1,by omega,rfl,rfl,uc,rfl,rfl⟩
 obtain rfl:n=i:=by omega
 clear h
 try refine Qb ?_
 have q1:=Qdf hn (Nat.le_refl n) hb hxb
 have eq:IntKind.i64.wrap ((qp n f (Bx.vec b n k) n).tdiv 2)=qv n f (Bx.vec b n k):=IntWalk.i64_in _ (by
  have := @QbF (qp n f (Bx.vec b n k) n)
  omega)
 rw [eq]
 refine QeV rfl rfl rfl rfl rfl rfl rfl ((hst k U2 L (Dx++[(b3,.var (.agg #[.int .i64 (n:Int),.slice p (n*n) cg]),24)]) _ _ xs hk uc hI (hrow.at sb) hex).perm pgs) ?_
 rintro v5 U5 M5 hU5 ⟨L2,rfl,hI2⟩
 refine Qj (M':=(b3,.var (.agg #[.int .i64 (n:Int),.slice p (n*n) cg]),24)::(Dx++L2)) ?_ pgs
 have hex0:El Vz U5 xs (fun a=>if a < n then (Bx.vec b n k) a else -(b a:Int)):=(El.up hex KeptC.out uc).congr hrow.len.1 fun a ha=>(if_pos ha).symm
 clear eq q1 hU3 hI hex rX
 try refine Qb ?_
 try refine Qu (M':=(b3,.var (.agg #[.int .i64 (n:Int),.slice p (n*n) cg]),24)::(Dx++L2)) (ULe.refl _) sbk ?_
 refine Ql (fun z E U' M'=>∃ (j:Nat) (xs:List Value) (Dx:MH),j≤n∧RowO TInt 1 Dx (some ⟨b6,0,none⟩) n n xs∧El Vz U' xs (fun a=>if a < j then (Bx.vec b n k) a else -(b a:Int))∧(∀ a,j≤a→a < n→(Bx.vec b n k) a=b a)∧U5=U'∧E=[(14,.int .i64 ((j:Int) - 1)),(6,.slice (some ⟨b6,0,none⟩) n n),(3,.pointer (some ⟨b3,0,none⟩)),(2,.func (.func c) #[] cs.toArray),(1,.slice pb n cb)]∧ULe U5 U'∧M'=(b3,.var (.agg #[.int .i64 (n:Int),.slice p (n*n) cg]),24)::(Dx++L2)∧z=j) (n0:=n) (E0:=[(14,.int .i64 (((n:Nat):Int) - 1)),(6,.slice (some ⟨b6,0,none⟩) n n),(3,.pointer (some ⟨b3,0,none⟩)),(2,.func (.func c) #[] cs.toArray),(1,.slice pb n cb)]) ⟨rfl,rfl,rfl,rfl,rfl,trivial⟩ ⟨n,xs,Dx,by omega,hrow,hex0,(fun a h1 h2=>absurd h1 (by omega)),rfl,rfl,uc,rfl,rfl⟩ ?_
 clear hrow hex0
 rintro z E U6 M' ⟨j,xs,Dx,hj,hrow,hex,hful,rfl,rfl,hU6,rfl,hzR⟩
 try refine Qb ?_
 refine Qx [11,12] [0,1,2,3,4,5,6,7,8,9,10,11,12] sym (by kernel_rfl) ?_
 try refine Qb ?_
 refine Qw rfl rfl (fun h1=>?_) (fun h1=>?_)
 ·obtain ⟨j,rfl⟩:∃ i,j=i+1:=⟨j - 1,by omega⟩
  rw [show ((j+1:Nat):Int) - 1=(j:Int) by omega]
  have hjn:j < n:=by omega
  have hbj:=hbb j hjn
  have hlen:=hrow.len.1
  have rX:=hrow.at (U:=U5) (M:=(b3,.var (.agg #[.int .i64 (n:Int),.slice p (n*n) cg]),24)::(Dx++L2)) sb
  obtain ⟨v1,hv1⟩:=rX.at hjn
  obtain ⟨hv,hz1⟩:Vz U5 v1 ((Bx.vec b n k) j):=by
   have h:=hex _ _ hv1
   simp only [if_pos (show j < j+1 by omega)] at h
   exact h
  subst hv
  obtain ⟨v2,hv2⟩:=rw2.at hjn
  obtain ⟨hv,hz2⟩:=el2 _ _ hv2
  obtain rfl:v2 = .int .i64 ((b j:Nat):Int):=hv
  try refine Qb ?_
  refine sl_y (Qf sym rfl rfl rfl rfl rfl rfl (rX.lt hv1) (rX.get _ _ hv1).1) rfl rfl rfl rfl ?_; refine sl_y (Qk sym rfl rfl rfl rfl rX hv1 rfl) rfl rfl rfl rfl ?_
  try refine Qb ?_
  refine sl_y (Qf sym rfl rfl rfl rfl rfl rfl ((rw2.up uc sb).lt hv2) ((rw2.up uc sb).get _ _ hv2).1) rfl rfl rfl rfl ?_; refine sl_y (Qk sym rfl rfl rfl rfl (rw2.up uc sb) hv2 rfl) rfl rfl rfl rfl ?_
  try refine Qb ?_
  refine Qi rfl (fun h2=>?_) (fun h2=>?_)
  ·try refine Qb ?_
   refine sl_y (Qf sym rfl rfl rfl rfl rfl rfl ((rw2.up uc sb).lt hv2) ((rw2.up uc sb).get _ _ hv2).1) rfl rfl rfl rfl ?_; refine sl_y (Qk sym rfl rfl rfl rfl (rw2.up uc sb) hv2 rfl) rfl rfl rfl rfl ?_
   try refine Qb ?_
   rw [wneg j hjn]
   refine QB (j:=j) hjn rfl ?_
   refine QG (v := .int .i64 (-(b j:Int))) (X:=(b3,.var (.agg #[.int .i64 (n:Int),.slice p (n*n) cg]),24)::L2) hrow pgs hjn (fun D3 hr3=>?_)
   refine Qj (M':=(b3,.var (.agg #[.int .i64 (n:Int),.slice p (n*n) cg]),24)::(D3++L2)) ?_ pgs
   try refine Qb ?_
   exact Qg (E':=[(14,.int .i64 ((j:Int) - 1)),(6,.slice (some ⟨b6,0,none⟩) n n),(3,.pointer (some ⟨b3,0,none⟩)),(2,.func (.func c) #[] cs.toArray),(1,.slice pb n cb)]) (m:=j) ⟨rfl,rfl,rfl,rfl,rfl,trivial⟩ (by omega) ⟨j,xs.set j (.int .i64 (-(b j:Int))),D3,by omega,hr3,YH (fun a x hx hne=>by
    have:=hex _ _ hx
    by_cases e:a < j
    ·simp only [if_pos (show a < j+1 by omega)] at this; simp only [if_pos e]; exact this
    ·simp only [if_neg (show ¬ a < j+1 by omega)] at this; simp only [if_neg e]; exact this) (by simp only [if_neg (Nat.lt_irrefl j)]; exact ⟨rfl,by omega⟩),(fun a h3 h4=>by
    by_cases e:a=j
    ·rw [e]; exact h2
    ·exact hful a (by omega) h4),rfl,rfl,uc,rfl,rfl⟩
  ·have hne:(Bx.vec b n k) j≠b j:=h2
   try refine Qb ?_
   refine Qi rfl (fun h3=>absurd h3 (by omega)) (fun _=>?_)
   try refine Qb ?_
   refine sl_y (Qf sym rfl rfl rfl rfl rfl rfl (rX.lt hv1) (rX.get _ _ hv1).1) rfl rfl rfl rfl ?_; refine sl_y (Qk sym rfl rfl rfl rfl rX hv1 rfl) rfl rfl rfl rfl ?_
   have hxj:=hxb j hjn
   try refine Qb ?_
   refine QB (j:=j) hjn rfl ?_
   refine QG (v := .int .i64 ((Bx.vec b n k) j+1)) (X:=(b3,.var (.agg #[.int .i64 (n:Int),.slice p (n*n) cg]),24)::L2) hrow pgs hjn (fun D3 hr3=>?_)
   refine Qj (M':=(b3,.var (.agg #[.int .i64 (n:Int),.slice p (n*n) cg]),24)::(D3++L2)) ?_ pgs
   have hlast:k+1≠Bx.all b n:=fun e=>hne ((Bx.vec_last hk).2 e j hjn)
   obtain ⟨g1,g2,g3⟩:=Bx.vec_next hjn (fun a h4 h5=>hful a (by omega) h5) hne
   try refine Qb ?_
   refine Qg (E':=[(6,.slice (some ⟨b6,0,none⟩) n n),(3,.pointer (some ⟨b3,0,none⟩)),(2,.func (.func c) #[] cs.toArray),(1,.slice pb n cb)]) (m:=Bx.all b n - (k+1)) ⟨rfl,rfl,rfl,rfl,trivial⟩ (by omega) ⟨k+1,xs.set j (.int .i64 ((Bx.vec b n k) j+1)),D3,L2,by omega,hr3,YH (fun a x hx hne=>by
    have:=hex _ _ hx
    by_cases e:a < j
    ·simp only [if_pos (show a < j+1 by omega)] at this; rw [g1 a e]; exact this
    ·have han:a < n:=by
      have:=(List.getElem?_eq_some_iff.1 hx).1
      omega
     simp only [if_neg (show ¬ a < j+1 by omega)] at this; rw [g3 a (by omega) han]; exact this) (by rw [g2]; exact ⟨rfl,by omega⟩),hI2,rfl,uc,rfl,rfl⟩
 ·obtain rfl:j=0:=by omega
  have hfin:=(Bx.vec_last hk).1 fun a ha=>hful a (by omega) ha
  try refine Qb ?_
  refine Qi rfl (fun h3=>?_) (fun h3=>absurd (show ((0:Nat):Int) - 1 < 0 by decide) h3)
  try refine Qb ?_
  exact Jv (M':=L2) sym rfl .nil uc sb (.inl rfl) (by rw [← hfin]; exact hI2)
end Go.Proofs.YthnnlgjlhnmhnaaGreat

/- Series: build, tidy, Normal. -/
namespace Go.Proofs.YthnnlgjlhnmhnaaGreat
open Go.Hp
variable {G:World} {U U':UH} {M:MH}
theorem Qcs {e s b c:Nat} {z:Value} (hz:z.cells.toList.length=s) (hm:c≤9223372036854775807):RowO e s [(b,.arr (List.replicate c z),e)] (some ⟨b,0,none⟩) 0 c []:=by
 have h:=RowE.row (e:=e) (b:=b) (n:=0) (c:=c) (r:=List.replicate c z) (Nat.zero_le c) (List.length_replicate ..) hm
 rw [List.take_zero] at h
 refine ⟨h,fun v (hv:v ∈ [])=>(by cases hv),fun k hk r hr v hv=>?_⟩
 simp only [List.mem_singleton] at hk
 subst hk
 simp only [Blk.arr.injEq] at hr
 subst hr
 rw [(List.mem_replicate.1 hv).2]; exact hz
def Skp (g:Nat→Rat) (N s:Nat):Prop:=s≤N∧(∀ a,a < s→g a=0)∧(s < N→g s≠0)
theorem Skp.uniq {g:Nat→Rat} {N s t:Nat} (h:Skp g N s) (h':Skp g N t):s=t:=by
 obtain ⟨h1,h2,h3⟩:=h
 obtain ⟨k1,k2,k3⟩:=h'
 rcases Nat.lt_trichotomy s t with e | e | e
 ·exact absurd (k2 s e) (h3 (by omega))
 ·exact e
 ·exact absurd (h2 t e) (k3 (by omega))
def Vser (ok:UH→Value→Rat→Prop) (U:UH) (M:MH) (v:Value) (f:Int) (N:Nat) (g:Nat→Rat):Prop:=∃ a,v = .agg #[.int .i64 f,a]∧Ls ok 4 N U M a g
theorem Qet {ok:UH→Value→Rat→Prop} {v:Value} {f:Int} {N:Nat} {g:Nat→Rat} (h:Vser ok U M v f N g) (h0 : -100≤f) (h1:f≤1000) (hN:(N:Int)≤1000 - f) :
  Ct Tryz.prog 111 [v] G U M fun v U' D=>v = .bool true∧U=U'∧D=[]:=by
 obtain ⟨_,rfl,p,c,vs,rfl,hc,-⟩:=h
 refine Qh Tryz.func111 rfl rfl rfl rfl ?_
 repeat (first|refine Qc ?_|refine Qa fun _=>?_|refine w_al fun _=>?_)
 refine Qw rfl rfl (fun _=>?_) (fun h=>absurd h0 h)
 repeat (first|refine Qc ?_|refine Qa fun _=>?_|refine w_al fun _=>?_)
 refine Qw rfl rfl (fun _=>?_) (fun h=>absurd h1 h)
 repeat (first|refine Qc ?_|refine Qa fun _=>?_|refine w_al fun _=>?_)
 refine Qe [] sym rfl (.cons (.tmp rfl) .nil) uc sb (.inl rfl) ⟨?_,rfl,rfl⟩
 show Value.bool (dec ((N:Int)≤1000 - f))=_
 rw [Qcd hN]
theorem Qew {N b:Nat} {f:Int} {v:Value} {g:Nat→Rat} (h:Ls (Wq b) 4 N U M v g) (hb1:1≤b) (hb:b≤1000000) (hN:N≤1000000000) (h0 : -100≤f) (h1:f≤1000) :
  Ct Tryz.prog 138 [.int .i64 f,v] G U M fun v U' D=>∃ s a,Skp g (min N (1000 - f).toNat) s∧v = .tuple #[.agg #[.int .i64 (f+s),a],.int .i64 0]∧Lo Vq TR 4 (min N (1000 - f).toNat - s) U' D a (fun k=>g (s+k))∧ULe U U':=by
 obtain ⟨p,c,vs,rfl,hc,rx0,ex0⟩:=h
 obtain ⟨N',hN'⟩:∃ N',N'=min N (1000 - f).toNat:=⟨_,rfl⟩
 have hNN:N'≤N:=by omega
 have rx:=rx0.take hNN
 have ex:El (Wq b) U (vs.take N') g:=fun k x hk=>by
  rw [List.getElem?_take] at hk
  split at hk
  ·exact ex0 _ _ hk
  ·cases hk
 rw [← hN']
 clear rx0 ex0
 generalize vs.take N'=vs at rx ex
 refine Qh Tryz.func138 rfl rfl rfl rfl ?_
 repeat (first|refine Qc ?_|refine Qa fun _=>?_|refine w_al fun _=>?_)
 rename_i b4
 refine Qi rfl (fun h=>absurd h (by omega)) (fun _=>?_)
 repeat (first|refine Qc ?_|refine Qa fun _=>?_|refine w_al fun _=>?_)
 rw [show (if 1000 - f < (N:Int) then 1000 - f else (N:Int))=((N':Nat):Int) by omega]
 refine Qjs (h:=N') (c:=c) (by omega) ?_
 repeat (first|refine Ji ?_|refine Qa fun _=>?_|refine w_al fun _=>?_)
 refine QE ?_
 repeat (first|refine Ji ?_|refine Qa fun _=>?_|refine w_al fun _=>?_)
 refine Qo (fun E U' M'=>∃ (i:Nat),Skp g N' i∧U=U'∧E=[(6,.int .i64 (i:Int)),(1,.slice p N' c),(0,.int .i64 f),(5,.int .i64 0),(4,.pointer (some ⟨b4,0,none⟩))]∧ULe U U'∧M'=(b4,.var (.agg #[.int .i64 0,.slice none 0 0]),37)::M) ?_ ?_
 ·try refine Qb ?_
  try refine Qu (M':=(b4,.var (.agg #[.int .i64 0,.slice none 0 0]),37)::M) (ULe.refl _) sbk ?_
  refine Ql (fun z E U' M'=>∃ (i:Nat),i≤N'∧(∀ a,a < i→g a=0)∧U=U'∧E=[(6,.int .i64 (i:Int)),(1,.slice p N' c),(0,.int .i64 f),(5,.int .i64 0),(4,.pointer (some ⟨b4,0,none⟩))]∧ULe U U'∧M'=(b4,.var (.agg #[.int .i64 0,.slice none 0 0]),37)::M∧z=N' - i) (n0:=N' - 0) (E0:=[(6,.int .i64 ((0:Nat):Int)),(1,.slice p N' c),(0,.int .i64 f),(5,.int .i64 0),(4,.pointer (some ⟨b4,0,none⟩))]) ⟨rfl,rfl,rfl,rfl,rfl,trivial⟩ ⟨0,by omega,(fun a h=>absurd h (Nat.not_lt_zero a)),rfl,rfl,uc,rfl,rfl⟩ ?_
  rintro z E U1 M' ⟨i,hi,hz,rfl,rfl,hU1,rfl,rfl⟩
  try refine Qb ?_
  refine Qw rfl rfl (fun h=>?_) (fun h=>?_)
  ·have hin:i < N':=by omega
   obtain ⟨v1,hv1⟩:=rx.at hin
   obtain ⟨x1,rfl,hx1,hn1⟩:=ex _ _ hv1
   try refine Qb ?_
   refine sl_y (Qf sym rfl rfl rfl rfl rfl rfl ((rx.up uc sb).lt hv1) ((rx.up uc sb).get _ _ hv1).1) rfl rfl rfl rfl ?_; refine sl_y (Qp sym rfl rfl rfl rfl rfl (rx.up uc sb) hv1) rfl rfl rfl rfl ?_
   try refine Qb ?_
   refine Qd rfl rfl rfl rfl rfl rfl (fun _=>Va (hx1.up uc (List.nil_sublist _)) ⟨by have:=hn1.1; omega,by have:=hn1.2; omega⟩) ?_
   rintro v2 U2 D2 hU2 ⟨rfl,rfl,rfl⟩
   rw [List.nil_append]
   try refine Qb ?_
   refine Qi rfl (fun h2=>?_) (fun h2=>?_)
   ·have h3:g i=0:=Rat.num_eq_zero.1 (Int.sign_eq_zero_iff_zero.1 h2)
    try refine Qb ?_
    exact Qg (E':=[(6,.int .i64 ((i:Int)+1)),(1,.slice p N' c),(0,.int .i64 f),(5,.int .i64 0),(4,.pointer (some ⟨b4,0,none⟩))]) (m:=N' - (i+1)) ⟨rfl,rfl,rfl,rfl,rfl,trivial⟩ (by omega) ⟨i+1,by omega,(fun a ha=>by
     rcases Nat.lt_or_eq_of_le (Nat.le_of_lt_succ ha) with h5 | h5
     ·exact hz a h5
     ·rw [h5]; exact h3),rfl,rfl,uc,rfl,rfl⟩
   ·try refine Qb ?_
    exact Qn (E':=[(6,.int .i64 (i:Int)),(1,.slice p N' c),(0,.int .i64 f),(5,.int .i64 0),(4,.pointer (some ⟨b4,0,none⟩))]) ⟨rfl,rfl,rfl,rfl,rfl,trivial⟩ ⟨i,⟨hi,hz,fun _ h3=>h2 (by rw [h3]; rfl)⟩,rfl,rfl,uc,rfl⟩
  ·try refine Qb ?_
   exact Qn (E':=[(6,.int .i64 (i:Int)),(1,.slice p N' c),(0,.int .i64 f),(5,.int .i64 0),(4,.pointer (some ⟨b4,0,none⟩))]) ⟨rfl,rfl,rfl,rfl,rfl,trivial⟩ ⟨i,⟨hi,hz,fun h3=>absurd h3 (by omega)⟩,rfl,rfl,uc,rfl⟩
 rintro E U1 M' ⟨i,hs,rfl,rfl,hU1,rfl⟩
 have hiN:=hs.1
 try refine Qb ?_
 refine Qi rfl (fun h=>absurd h (by omega)) (fun _=>?_)
 try refine Qb ?_
 obtain ⟨K,hK⟩:∃ K,K=N' - i:=⟨_,rfl⟩
 refine QQ (m:=0) (n:=K) sym rfl rfl rfl rfl rfl rfl (by omega) rfl rfl (Nat.zero_le _) (by omega) (by omega) rfl rfl rfl rfl (fun b7=>?_)
 have hrow:=Qcs (e:=TR) (s:=4) (b:=b7) (c:=K) (z:=zeroQV.v) rfl (by omega)
 try refine Qb ?_
 refine Qdx (lo:=i) (n:=N') (c:=c) hiN (by omega) ?_
 have rd:=rx.drop hiN (show N'≤c by omega)
 generalize (if c=i then p else p.map (·.add (i*4)))=p2 at rd ⊢
 rw [← hK] at rd ⊢
 have exd:El (Wq b) U (vs.drop i) (fun k=>g (i+k)):=fun k x hk=>ex _ _ (by rw [List.getElem?_drop] at hk; exact hk)
 refine Qj (M':=(b4,.var (.agg #[.int .i64 0,.slice none 0 0]),37)::([(b7,.arr (List.replicate K zeroQV.v),TR)]++M)) ?_ pgs
 generalize [(b7,Blk.arr (List.replicate K zeroQV.v),TR)]=D0 at hrow ⊢
 try refine Qb ?_
 try refine Qu (M':=(b4,.var (.agg #[.int .i64 0,.slice none 0 0]),37)::(D0++M)) (ULe.refl _) sbk ?_
 refine Ql (fun z E U' M'=>∃ (k:Nat) (Q:Option Addr) (C:Nat) (us:List Value) (D:MH),k≤K∧RowO TR 4 D Q k C us∧El Vq U' us (fun k=>g (i+k))∧E=[(48,.int .i64 (k:Int)),(47,.int .i64 (K:Int)),(46,.slice p2 K (c - i)),(7,.slice Q k C),(0,.int .i64 (f+(i:Int))),(5,.int .i64 0),(4,.pointer (some ⟨b4,0,none⟩))]∧ULe U U'∧M'=(b4,.var (.agg #[.int .i64 0,.slice none 0 0]),37)::(D++M)∧z=K - k) (n0:=K - 0) (E0:=[(48,.int .i64 ((0:Nat):Int)),(47,.int .i64 (K:Int)),(46,.slice p2 K (c - i)),(7,.slice (some ⟨b7,0,none⟩) 0 K),(0,.int .i64 (f+(i:Int))),(5,.int .i64 0),(4,.pointer (some ⟨b4,0,none⟩))]) ⟨rfl,rfl,rfl,rfl,rfl,rfl,rfl,trivial⟩ ⟨0,some ⟨b7,0,none⟩,K,[],D0,by omega,hrow,El.nil,rfl,uc,rfl,rfl⟩ ?_
 clear hrow
 rintro z E U2 M' ⟨k,Q,C,us,D,hk,hrow,hel,rfl,hU2,rfl,rfl⟩
 try refine Qb ?_
 refine Qi rfl (fun h=>?_) (fun h=>?_)
 ·have hkn:k < K:=by omega
  obtain ⟨v1,hv1⟩:=rd.at hkn
  obtain ⟨x1,rfl,hx1,hn1⟩:=exd _ _ hv1
  try refine Qb ?_
  refine sl_y (Qf sym rfl rfl rfl rfl rfl rfl ((rd.up uc sb).lt hv1) ((rd.up uc sb).get _ _ hv1).1) rfl rfl rfl rfl ?_; refine sl_y (Qp sym rfl rfl rfl rfl rfl (rd.up uc sb) hv1) rfl rfl rfl rfl ?_
  repeat (first|refine Qc ?_|refine Qa fun _=>?_|refine w_al fun _=>?_)
  rename_i b9
  refine Qd rfl rfl rfl rfl rfl rfl (fun _=>(Ys (hx1.up uc (List.nil_sublist _)) ⟨by have:=hn1.1; omega,by have:=hn1.2; omega⟩).settle) ?_
  rintro v U3 D3 hU ⟨rfl,_,_,⟨x3,rfl,h3,-⟩,-,-,hs3⟩
  replace h3:=h3.sett hs3
  clear hs3
  rw [List.nil_append]
  try refine Qb ?_
  refine Ye hrow (X:=(b9,.var x1.v,TR)::(b4,.var (.agg #[.int .i64 0,.slice none 0 0]),37)::M) pgs (fun b P2 C2 D2 hr2=>?_)
  refine Qj (M':=(b9,.var x1.v,TR)::(b4,.var (.agg #[.int .i64 0,.slice none 0 0]),37)::(D2++M)) ?_ pgs
  try refine Qb ?_
  refine QU (M':=(b4,.var (.agg #[.int .i64 0,.slice none 0 0]),37)::(D2++M)) (ULe.refl _) sbk ?_
  exact Qg (E':=[(48,.int .i64 ((k:Int)+1)),(47,.int .i64 (K:Int)),(46,.slice p2 K (c - i)),(7,.slice P2 (k+1) C2),(0,.int .i64 (f+(i:Int))),(5,.int .i64 0),(4,.pointer (some ⟨b4,0,none⟩))]) (m:=K - (k+1)) ⟨rfl,rfl,rfl,rfl,rfl,rfl,rfl,trivial⟩ (by omega) ⟨k+1,P2,C2,_,D2,by omega,hr2,JV hrow.len.1 (hel.up QF uc) ⟨x3,rfl,h3⟩,rfl,uc,rfl,rfl⟩
 ·obtain rfl:K=k:=by omega
  rw [hK] at hrow
  repeat (first|refine Qc ?_|refine Qa fun _=>?_|refine w_al fun _=>?_)
  rw [hK]
  exact Qe D sym rfl (.cons (.cell 0 rfl rfl rfl) (.cons (.tmp rfl) .nil)) uc sb (.inl rfl) ⟨i,_,hs,rfl,⟨Q,C,us,rfl,hrow,hel⟩,uc⟩
theorem Qem {N b:Nat} {f:Int} {v:Value} {g:Nat→Rat} (h:Ls (Wq b) 4 N U M v g) (hb1:1≤b) (hb:b≤1000000) (hN:N≤1000000000) (h0 : -100≤f) (h1:f≤1000) :
  Ct Tryz.prog 138 [.int .i64 f,v] G U M fun v U' D=>∃ s r,Skp g (min N (1000 - f).toNat) s∧v = .tuple #[r,.int .i64 0]∧Vser Vq U' [] r (f+s) (min N (1000 - f).toNat - s) (fun k=>g (s+k))∧D=[] :=
 (Qew h hb1 hb hN h0 h1).settle.mono fun _ _ _ _ ⟨h1,_,_,⟨s,a,h2,h3,h4,_⟩,_,h5,h6⟩=>⟨s,_,h2,h3,⟨a,rfl,h4.sett QF h5 h6⟩,h1⟩
theorem Qfb {N b:Nat} {f:Int} {v:Value} {g:Nat→Rat} (h:Vser (Wq b) U M v f N g) (hb1:1≤b) (hb:b≤1000000) (h0 : -100≤f) (h1:f≤1000) (hN:(N:Int)≤1000 - f) :
  Ct Tryz.prog 112 [v] G U M fun v U' D=>∃ s,Skp g N s∧Vser Vq U' [] v (f+s) (N - s) (fun k=>g (s+k))∧D=[]:=by
 have hm:min N (1000 - f).toNat=N:=by omega
 obtain ⟨_,rfl,h⟩:=h
 obtain ⟨p,c,vs,rfl,-⟩:=id h
 refine Qh Tryz.func112 rfl rfl rfl rfl ?_
 repeat (first|refine Qc ?_|refine Qa fun _=>?_|refine w_al fun _=>?_)
 rename_i b1 b2
 refine Qd rfl rfl rfl rfl rfl rfl (fun _=>Qem (h.up VM uc sb) hb1 hb (by omega) h0 h1) ?_
 rintro v1 U1 D1 hU1 ⟨s,r,hs,rfl,hv,rfl⟩
 rw [List.nil_append]
 rw [hm] at hs hv
 obtain ⟨_,rfl,hv⟩:=hv
 obtain ⟨pv,cv,us,rfl,-⟩:=id hv
 repeat (first|refine Qc ?_|refine Qa fun _=>?_|refine w_al fun _=>?_)
 exact Qe [] sym rfl (.cons (.cell 1 rfl rfl rfl) .nil) uc sb (.inl rfl) ⟨s,hs,⟨_,rfl,hv⟩,rfl⟩
theorem yR {N b:Nat} {f:Int} {v:Value} {g:Nat→Rat} (h:Vser (Wq b) U M v f N g) (hb1:1≤b) (hb:b≤1000000) (h0 : -100≤f) (h1:f≤1000) (hN:(N:Int)≤1000 - f) :
  Ct Tryz.prog 70 [v] G U M fun v U' D=>∃ s r,Skp g N s∧v = .tuple #[r,.int .i64 0]∧Vser Vq U' [] r (f+s) (N - s) (fun k=>g (s+k))∧D=[]:=by
 obtain ⟨_,rfl,h⟩:=h
 obtain ⟨p,c,vs,rfl,-⟩:=id h
 refine Qh Tryz.func70 rfl rfl rfl rfl ?_
 repeat (first|refine Qc ?_|refine Qa fun _=>?_|refine w_al fun _=>?_)
 rename_i b1 b2
 refine Qd rfl rfl rfl rfl rfl rfl (fun _=>Qet (ok:=Wq b) ⟨_,rfl,h.up VM uc sb⟩ h0 h1 hN) ?_
 rintro v1 U1 D1 hU1 ⟨rfl,rfl,rfl⟩
 rw [List.nil_append]
 repeat (first|refine Qc ?_|refine Qa fun _=>?_|refine w_al fun _=>?_)
 refine Qd rfl rfl rfl rfl rfl rfl (fun _=>Qfb ⟨_,rfl,h.up VM uc sb⟩ hb1 hb h0 h1 hN) ?_
 rintro v1 U1 D1 hU1 ⟨s,hs,⟨_,rfl,hv⟩,rfl⟩
 obtain ⟨pv,cv,us,rfl,-⟩:=id hv
 rw [List.nil_append]
 repeat (first|refine Qc ?_|refine Qa fun _=>?_|refine w_al fun _=>?_)
 exact Qe [] sym rfl (.cons (.cell 0 rfl rfl rfl) (.cons (.tmp rfl) .nil)) uc sb (.inl rfl) ⟨s,_,hs,rfl,⟨_,rfl,hv⟩,rfl⟩
end Go.Proofs.YthnnlgjlhnmhnaaGreat

/- Walks of layer 36: the step of weighted without a polynomial. -/
namespace Go.Proofs.YthnnlgjlhnmhnaaGreat
open Go.Hp
variable {G:World} {U U':UH} {M:MH}
theorem Qjo {n:Nat} {f x:Nat→Int}:((qp n f x n:Int):Rat)=La.bl n (gq n f) (fun i=>((x i:Int):Rat)) (fun i=>((x i:Int):Rat)):=by
 unfold qp La.bl
 rw [Fq.hom_q.sm,Lr.sm_la]
 rw [La.sm_congr (g:=fun a=>La.sm n fun j=>((x a:Int):Rat)*gq n f a j*((x j:Int):Rat)) fun a _=>by
  rw [Rat.intCast_mul]
  unfold rp
  rw [Fq.hom_q.sm,Lr.sm_la,← La.sm_mul]
  exact La.sm_congr fun j _=>by rw [Rat.intCast_mul,← Rat.mul_assoc]; rfl]
 rw [La.sm_comm]
 exact La.sm_congr fun j _=>La.sm_mul' _ _ _
theorem Qjp {n:Nat} {f x:Nat→Int} (h:La.Pdf n (gq n f)):0≤qp n f x n∧0≤qv n f x:=by
 have h1:=Bx.pdf_nonneg h (fun i=>((x i:Int):Rat))
 rw [← Qjo] at h1
 have h2:0≤qp n f x n:=Rat.intCast_le_intCast.1 h1
 exact ⟨h2,Int.tdiv_nonneg h2 (by decide)⟩
def vn (n:Nat) (f:Nat→Int) (b:Nat→Nat) (k:Nat):Nat:=(qv n f (Bx.vec b n k)).toNat
theorem QfB {n k:Nat} {f:Nat→Int} {b:Nat→Nat} (h:La.Pdf n (gq n f)):qv n f (Bx.vec b n k)=(vn n f b k:Int):=(Int.toNat_of_nonneg (Qjp h).2).symm
theorem cnt_le (p:Nat→Bool):∀ n,Bx.cnt n p≤n
 | 0=>Nat.le_refl 0
 | n+1=>by
  have:=cnt_le p n
  show Bx.cnt n p+(if p n then 1 else 0)≤n+1
  split<;>omega
theorem QiP {P q m cx b2 b3 b4 b5 bm:Nat} {px:Option Addr} {ms:List Value} {Dm X:MH} {z:Nat→Nat} (hP:P≤1000) (hrow:RowO TInt 1 Dm (some ⟨bm,0,none⟩) P P ms) (hms:∀ i,i < P→ms[i]?=some (.int .i64 (z i:Int))) (hz:∀ i,i < P→z i≤4611686018427387904) :
  Cx Tryz.prog 68 [.slice px m cx,.int .i64 (q:Int),.pointer (some ⟨b2,0,none⟩),.pointer (some ⟨b3,0,none⟩),.pointer (some ⟨b4,0,none⟩),.pointer (some ⟨b5,0,none⟩)] G U
   ((b3,.var (.slice (some ⟨bm,0,none⟩) P P),TIs)::(b2,.var (.int .i64 (P:Int)),TInt)::(b4,.var (.slice none 0 0),25)::(Dm++X))
   fun _ U' M'=>∃ Dm' ms',M'=(b3,.var (.slice (some ⟨bm,0,none⟩) P P),TIs)::(b2,.var (.int .i64 (P:Int)),TInt)::(b4,.var (.slice none 0 0),25)::(Dm'++X)∧RowO TInt 1 Dm' (some ⟨bm,0,none⟩) P P ms'∧∀ i,i < P→ms'[i]?=some (.int .i64 (((if q=i then z i+1 else z i):Nat):Int)):=by
 refine JX Tryz.func68 rfl rfl rfl rfl ?_
 repeat (first|refine Qc ?_|refine Qa fun _=>?_|refine w_al fun _=>?_)
 refine Qi rfl (fun h=>?_) (fun h=>?_)
 ·repeat (first|refine Qc ?_|refine Qa fun _=>?_|refine w_al fun _=>?_)
  refine Jv sym rfl .nil uc (List.Sublist.refl _) (.inl rfl) ⟨Dm,ms,rfl,hrow,fun i hi=>?_⟩
  rw [if_neg (by omega)]; exact hms i hi
 ·have hqP:q < P:=by omega
  have hv:=hms q hqP
  have hzq:=hz q hqP
  have rX:=hrow.at (U:=U) (M:=(b3,.var (.slice (some ⟨bm,0,none⟩) P P),TIs)::(b2,.var (.int .i64 (P:Int)),TInt)::(b4,.var (.slice none 0 0),25)::(Dm++X)) sb
  repeat (first|refine Qc ?_|refine Qa fun _=>?_|refine w_al fun _=>?_)
  refine sl_y (Qf sym rfl rfl rfl rfl rfl rfl (rX.lt hv) (rX.get _ _ hv).1) rfl rfl rfl rfl ?_; refine sl_y (Qk sym rfl rfl rfl rfl rX hv rfl) rfl rfl rfl rfl ?_
  repeat (first|refine Qc ?_|refine Qa fun _=>?_|refine w_al fun _=>?_)
  refine QB (j:=q) hqP rfl ?_
  refine QG (v := .int .i64 ((z q:Int)+1)) (X:=(b3,.var (.slice (some ⟨bm,0,none⟩) P P),TIs)::(b2,.var (.int .i64 (P:Int)),TInt)::(b4,.var (.slice none 0 0),25)::X) hrow pgs hqP (fun D3 hr3=>?_)
  refine Qj (M':=(b3,.var (.slice (some ⟨bm,0,none⟩) P P),TIs)::(b2,.var (.int .i64 (P:Int)),TInt)::(b4,.var (.slice none 0 0),25)::(D3++X)) ?_ pgs
  repeat (first|refine Qc ?_|refine Qa fun _=>?_|refine w_al fun _=>?_)
  try refine Qu (M':=(b3,.var (.slice (some ⟨bm,0,none⟩) P P),TIs)::(b2,.var (.int .i64 (P:Int)),TInt)::(b4,.var (.slice none 0 0),25)::(D3++X)) (ULe.refl _) sbk ?_
  refine Ql (fun z E U' M'=>∃ (i:Nat),i=0∧U=U'∧E=[(24,.int .i64 (i:Int)),(23,.int .i64 ((0:Nat):Int))]∧ULe U U'∧M'=(b3,.var (.slice (some ⟨bm,0,none⟩) P P),TIs)::(b2,.var (.int .i64 (P:Int)),TInt)::(b4,.var (.slice none 0 0),25)::(D3++X)∧z=0) (n0:=0) (E0:=[(24,.int .i64 ((0:Nat):Int)),(23,.int .i64 ((0:Nat):Int))]) ⟨rfl,rfl,trivial⟩ ⟨0,rfl,rfl,rfl,uc,rfl,rfl⟩ ?_
  rintro z E U1 M' ⟨i,hi,rfl,rfl,hU1,rfl,hzL⟩
  try refine Qb ?_
  refine Qi rfl (fun h2=>absurd h2 (by omega)) (fun _=>?_)
  repeat (first|refine Qc ?_|refine Qa fun _=>?_|refine w_al fun _=>?_)
  refine Jv sym rfl .nil uc (List.Sublist.refl _) (.inr rfl) ⟨D3,_,rfl,hr3,fun i hi=>?_⟩
  have hlen:=hrow.len.1
  by_cases e:q=i
  ·subst e
   rw [if_pos rfl,List.getElem?_set_self (by omega)]; rfl
  ·rw [if_neg e,List.getElem?_set_ne e]; exact hms i hi
def cv (n:Nat) (f:Nat→Int) (b:Nat→Nat) (k q:Nat):Nat:=Bx.cnt k fun t=>vn n f b t == q
theorem Qhl {n k q:Nat} {f:Nat→Int} {b:Nat→Nat}:cv n f b (k+1) q=if vn n f b k=q then cv n f b k q+1 else cv n f b k q:=by
 show Bx.cnt k _+(if (vn n f b k == q)=true then 1 else 0)=_
 by_cases e:vn n f b k=q
 ·rw [if_pos e,if_pos (beq_iff_eq.2 e)]; rfl
 ·rw [if_neg e,if_neg (fun h=>e (beq_iff_eq.1 h))]; rfl
theorem QdE {n c m:Nat} {p:Option Addr} {vs:List Value} {f:Nat→Int} (rw1:RowAt U [] 1 p (n*n) vs) (el:El Vz U vs f) (hb:∀ k,k < n*n → -1000≤f k∧f k≤1000) (he:Evn n f) (hp:Pdm n f) (h1n:1≤n) (hn:n≤8) (hm:m≤1000) :
  Ct Tryz.prog 66 [.agg #[.int .i64 (n:Int),.slice p (n*n) c],.int .i64 (m:Int)] G U M fun v U' D=>∃ X,Inv n f X∧(Bx.pre (bd X m) n≤1048576→∃ s,v = .tuple #[s,.bool true]∧Ls Vz 1 n U' [] s (fun i=>(bd X m i:Int)))∧(1048576 < Bx.pre (bd X m) n→v = .tuple #[.slice none 0 0,.bool false])∧D=[] :=
 (QhH rw1 el hb he hp h1n hn hm).settle.mono fun _ _ _ _ ⟨h1,_,_,⟨X,hX,h2,h3,_⟩,_,h5,h6⟩=>⟨X,hX,fun h=>by
  obtain ⟨s,h7,h8⟩:=h2 h
  exact ⟨s,h7,h8.sett KeptC.out h5 h6⟩,fun h=>(h3 h).1,h1⟩
def WgtO (n:Nat) (f:Nat→Int) (P:Nat) (U':UH) (v:Value):Prop :=
 ∃ X,Inv n f X∧(Bx.pre (bd X (P - 1)) n≤1048576→∃ s r,Skp (fun q=>(((cv n f (bd X (P - 1)) (Bx.pre (bd X (P - 1)) n) q:Nat):Int):Rat)) P s∧v = .tuple #[r,.int .i64 0]∧Vser Vq U' [] r (s:Int) (P - s) (fun k=>(((cv n f (bd X (P - 1)) (Bx.pre (bd X (P - 1)) n) (s+k):Nat):Int):Rat))) ∧
  (1048576 < Bx.pre (bd X (P - 1)) n→v = .tuple #[.agg #[.int .i64 0,.slice none 0 0],.int .i64 7])
theorem Qeh {n P:Nat} {f:Nat→Int} {v:Value} (h:WgtO n f P U v):∃ (F:Int) (pk:Option Addr) (k ck:Nat) (e:Int),v = .tuple #[.agg #[.int .i64 F,.slice pk k ck],.int .i64 e]:=by
 obtain ⟨X,-,h1,h2⟩:=h
 rcases Nat.lt_or_ge 1048576 (Bx.pre (bd X (P - 1)) n) with h3 | h3
 ·exact ⟨_,_,_,_,_,h2 h3⟩
 ·obtain ⟨s,r,-,h4,_,rfl,p,c,vs,rfl,-⟩:=h1 h3
  exact ⟨_,_,_,_,_,h4⟩
theorem QaA {n c:Nat} {prec:Int} {p:Option Addr} {vs:List Value} {f:Nat→Int} (rw1:RowAt U [] 1 p (n*n) vs) (el:El Vz U vs f) (hb:∀ k,k < n*n → -1000≤f k∧f k≤1000) (he:Evn n f) (hp:Pdm n f) (h1n:1≤n) (hn:n≤8) (h64 : -9223372036854775808≤prec∧prec≤9223372036854775807) :
  Ct Tryz.prog 31 [.agg #[.int .i64 (n:Int),.slice p (n*n) c],.slice none 0 0,.int .i64 prec] G U M fun v U' D =>
   ((prec < 0∨1000 < prec)→v = .tuple #[.agg #[.int .i64 0,.slice none 0 0],.int .i64 2])∧(∀ P:Nat,prec=(P:Int)→P≤1000→WgtO n f P U' v)∧D=[]:=by
 have hnn:n*n≤8*8:=Nat.mul_le_mul hn hn
 refine Qh Tryz.func31 rfl rfl rfl rfl ?_
 repeat (first|refine Qc ?_|refine Qa fun _=>?_|refine w_al fun _=>?_)
 rename_i b3 b4 b5 b6
 refine Qw rfl rfl (fun h1=>?_) (fun h1=>?_)
 ·repeat (first|refine Qc ?_|refine Qa fun _=>?_|refine w_al fun _=>?_)
  exact Qe [] sym rfl (.cons (.cell 0 rfl rfl rfl) (.cons (.tmp rfl) .nil)) uc sb (.inl rfl) ⟨fun _=>rfl,fun P e _=>by omega,rfl⟩
 repeat (first|refine Qc ?_|refine Qa fun _=>?_|refine w_al fun _=>?_)
 refine Qi rfl (fun h2=>?_) (fun h2=>?_)
 ·repeat (first|refine Qc ?_|refine Qa fun _=>?_|refine w_al fun _=>?_)
  exact Qe [] sym rfl (.cons (.cell 0 rfl rfl rfl) (.cons (.tmp rfl) .nil)) uc sb (.inl rfl) ⟨fun _=>rfl,fun P e _=>by omega,rfl⟩
 obtain ⟨P,rfl⟩:∃ P:Nat,prec=(P:Int):=⟨prec.toNat,by omega⟩
 have hpd:=(Vf he hp).2.1
 repeat (first|refine Qc ?_|refine Qa fun _=>?_|refine w_al fun _=>?_)
 rw [show (if (P:Int) - 1 > 0 then (P:Int) - 1 else 0)=((P - 1:Nat):Int) by omega]
 refine Qd rfl rfl rfl rfl rfl rfl (fun _=>QdE (m:=P - 1) (rw1.up uc (List.nil_sublist _)) (el.up KeptC.out uc) hb he hp h1n hn (by omega)) ?_
 rintro v7 U7 D7 hU7 ⟨X,hX,hbx1,hbx2,rfl⟩
 rw [List.nil_append]
 have hcon:∀ v:Value,∀ U8,WgtO n f P U8 v→((P:Int) < 0∨1000 < (P:Int)→v = .tuple #[.agg #[.int .i64 0,.slice none 0 0],.int .i64 2])∧∀ P':Nat,(P:Int)=(P':Int)→P'≤1000→WgtO n f P' U8 v:=fun v U8 h=>⟨fun h3=>by omega,fun P' e _=>by
  obtain rfl:P=P':=Int.ofNat.inj e
  exact h⟩
 rcases Nat.lt_or_ge 1048576 (Bx.pre (bd X (P - 1)) n) with hbig | hbx
 ·obtain rfl:=hbx2 hbig
  have hc8:=hcon (tup [.agg #[.int .i64 0,.slice none 0 0],.int .i64 7]) U7 ⟨X,hX,fun h=>by omega,fun _=>rfl⟩
  repeat (first|refine Qc ?_|refine Qa fun _=>?_|refine w_al fun _=>?_)
  exact Qe [] sym rfl (.cons (.cell 0 rfl rfl rfl) (.cons (.tmp rfl) .nil)) uc sb (.inl rfl) ⟨hc8.1,hc8.2,rfl⟩
 obtain ⟨_,rfl,pb,cb,bs,rfl,hcb,rb,eb⟩:=hbx1 hbx
 obtain ⟨b,hbd⟩:∃ b,b=bd X (P - 1):=⟨_,rfl⟩
 rw [← hbd] at hbx eb
 have hsd:∀ i,i < n→b i≤1048576:=fun i hi=>by have:=qF hi hbx; omega
 repeat (first|refine Qc ?_|refine Qa fun _=>?_|refine w_al fun _=>?_)
 refine QQ (m:=P) (n:=P) sym rfl rfl rfl rfl rfl rfl rfl rfl rfl (Nat.le_refl P) (by omega) (by omega) rfl rfl rfl rfl (fun bm=>?_)
 have hrm:=Jk (e:=TInt) (s:=1) (b:=bm) (n:=P) (z := .int .i64 0) rfl (by omega)
 have hm0:∀ i,i < P→(List.replicate P (Value.int .i64 0))[i]?=some (.int .i64 ((cv n f b 0 i:Nat):Int)):=fun i hi=>by rw [List.getElem?_replicate,if_pos hi]; rfl
 repeat (first|refine Qc ?_|refine Qa fun _=>?_|refine w_al fun _=>?_)
 rename_i b10
 refine QQ (m:=P) (n:=P) sym rfl rfl rfl rfl rfl rfl rfl rfl rfl (Nat.le_refl P) (by omega) (by omega) rfl rfl rfl rfl (fun bc=>?_)
 have hrc:=Jk (e:=TR) (s:=4) (b:=bc) (n:=P) (z:=zeroQV.v) rfl (by omega)
 repeat (first|refine Qc ?_|refine Qa fun _=>?_|refine w_al fun _=>?_)
 rename_i b11
 refine sl_y (yc rfl rfl) rfl rfl rfl rfl ?_
 refine Qj (M':=(b10,.var (.slice (some ⟨bm,0,none⟩) P P),TIs)::(b5,.var (.int .i64 (P:Int)),TInt)::(b4,.var (.slice none 0 0),25)::([(bm,.arr (List.replicate P (.int .i64 0)),TInt)]++((b11,.var (.slice (some ⟨bc,0,none⟩) P P),35)::(b6,.var (.agg #[.int .i64 0,.slice none 0 0]),37)::(b3,.var (.agg #[.int .i64 (n:Int),.slice p (n*n) c]),24)::([(bc,.arr (List.replicate P zeroQV.v),TR)]++M)))) ?_ pgs
 generalize List.replicate P (Value.int .i64 0)=ms0 at hrm hm0 ⊢
 generalize [(bm,Blk.arr ms0,TInt)]=Dm0 at hrm ⊢
 generalize List.replicate P zeroQV.v=cs0 at hrc ⊢
 generalize [(bc,Blk.arr cs0,TR)]=Dc at hrc ⊢
 have hst:Stp 68 [.pointer (some ⟨b5,0,none⟩),.pointer (some ⟨b10,0,none⟩),.pointer (some ⟨b4,0,none⟩),.pointer (some ⟨b11,0,none⟩)] G U7 n f b
   (fun k _ L=>∃ Dm ms,L=(b10,.var (.slice (some ⟨bm,0,none⟩) P P),TIs)::(b5,.var (.int .i64 (P:Int)),TInt)::(b4,.var (.slice none 0 0),25)::(Dm++((b11,.var (.slice (some ⟨bc,0,none⟩) P P),35)::(b6,.var (.agg #[.int .i64 0,.slice none 0 0]),37)::(b3,.var (.agg #[.int .i64 (n:Int),.slice p (n*n) c]),24)::(Dc++M)))∧RowO TInt 1 Dm (some ⟨bm,0,none⟩) P P ms∧∀ i,i < P→ms[i]?=some (.int .i64 ((cv n f b k i:Nat):Int))):=by
  intro k U1 L E px cx xs hk hU hI hrx hex
  obtain ⟨Dm,ms,rfl,hrow,hms⟩:=hI
  rw [QfB hpd]
  have hka:Bx.all b n≤1048576:=by rw [Bx.pre_vol]; exact hbx
  refine ((QiP (X:=E++((b11,.var (.slice (some ⟨bc,0,none⟩) P P),35)::(b6,.var (.agg #[.int .i64 0,.slice none 0 0]),37)::(b3,.var (.agg #[.int .i64 (n:Int),.slice p (n*n) c]),24)::(Dc++M))) (show P≤1000 by omega) hrow hms fun i hi=>by have:=cnt_le (fun t=>vn n f b t == i) k; unfold cv; omega).perm pgs).out fun v U' M' hU' hR=>?_
  obtain ⟨Dm',ms',rfl,hr',hms'⟩:=hR
  exact ⟨E++((b10,.var (.slice (some ⟨bm,0,none⟩) P P),TIs)::(b5,.var (.int .i64 (P:Int)),TInt)::(b4,.var (.slice none 0 0),25)::(Dm'++((b11,.var (.slice (some ⟨bc,0,none⟩) P P),35)::(b6,.var (.agg #[.int .i64 0,.slice none 0 0]),37)::(b3,.var (.agg #[.int .i64 (n:Int),.slice p (n*n) c]),24)::(Dc++M)))),pgs,_,rfl,Dm',ms',rfl,hr',fun i hi=>by rw [hms' i hi,Qhl]⟩
 refine JP rfl rfl rfl rfl rfl rfl (QbU (rw1.up uc (List.nil_sublist _)) (el.up KeptC.out uc) hb (rb.up uc (List.nil_sublist _)) (eb.up KeptC.out uc) hsd h1n hn hst ⟨Dm0,ms0,rfl,hrm,hm0⟩) ?_
 rintro v8 U8 M8 hU8 ⟨Dm,ms,rfl,hrow,hms⟩
 rw [Bx.pre_vol] at hms
 obtain ⟨g,hg⟩:∃ g,g=fun q=>cv n f b (Bx.pre b n) q:=⟨_,rfl⟩
 have hms':∀ i,i < P→ms[i]?=some (.int .i64 ((g i:Nat):Int)):=fun i hi=>by rw [hms i hi,hg]
 have hgb:∀ i,g i≤1048576:=fun i=>by
  have:=cnt_le (fun t=>vn n f b t == i) (Bx.pre b n)
  rw [hg]
  exact Nat.le_trans this hbx
 clear hms hst hrm hm0
 repeat (first|refine Qc ?_|refine Qa fun _=>?_|refine w_al fun _=>?_)
 refine Yu (M':=(b11,.var (.slice (some ⟨bc,0,none⟩) P P),35)::(b6,.var (.agg #[.int .i64 0,.slice none 0 0]),37)::(Dc++((b10,.var (.slice (some ⟨bm,0,none⟩) P P),TIs)::(b5,.var (.int .i64 (P:Int)),TInt)::(b4,.var (.slice none 0 0),25)::(b3,.var (.agg #[.int .i64 (n:Int),.slice p (n*n) c]),24)::(Dm++M)))) pgs ?_
 try refine Qu (M':=(b11,.var (.slice (some ⟨bc,0,none⟩) P P),35)::(b6,.var (.agg #[.int .i64 0,.slice none 0 0]),37)::(Dc++((b10,.var (.slice (some ⟨bm,0,none⟩) P P),TIs)::(b5,.var (.int .i64 (P:Int)),TInt)::(b4,.var (.slice none 0 0),25)::(b3,.var (.agg #[.int .i64 (n:Int),.slice p (n*n) c]),24)::(Dm++M)))) (ULe.refl _) sbk ?_
 refine Ql (fun z E U' M'=>∃ (i:Nat) (cs:List Value) (Dc:MH),i≤P∧RowO TR 4 Dc (some ⟨bc,0,none⟩) P P cs∧(∀ a x,a < i→cs[a]?=some x→Vq U' x (((g a:Nat):Int):Rat))∧E=[(44,.int .i64 (i:Int)),(43,.int .i64 (P:Int)),(42,.slice (some ⟨bm,0,none⟩) P P),(11,.pointer (some ⟨b11,0,none⟩)),(6,.pointer (some ⟨b6,0,none⟩)),(7,.int .i64 0)]∧ULe U8 U'∧M'=(b11,.var (.slice (some ⟨bc,0,none⟩) P P),35)::(b6,.var (.agg #[.int .i64 0,.slice none 0 0]),37)::(Dc++((b10,.var (.slice (some ⟨bm,0,none⟩) P P),TIs)::(b5,.var (.int .i64 (P:Int)),TInt)::(b4,.var (.slice none 0 0),25)::(b3,.var (.agg #[.int .i64 (n:Int),.slice p (n*n) c]),24)::(Dm++M)))∧z=P - i) (n0:=P - 0) (E0:=[(44,.int .i64 ((0:Nat):Int)),(43,.int .i64 (P:Int)),(42,.slice (some ⟨bm,0,none⟩) P P),(11,.pointer (some ⟨b11,0,none⟩)),(6,.pointer (some ⟨b6,0,none⟩)),(7,.int .i64 0)]) ⟨rfl,rfl,rfl,rfl,rfl,rfl,trivial⟩ ⟨0,cs0,Dc,by omega,hrc,(fun a x h=>absurd h (Nat.not_lt_zero a)),rfl,uc,rfl,rfl⟩ ?_
 clear hrc
 rintro z E U9 M' ⟨i,cs,Dc,hi,hrc,hcs,rfl,hU9,rfl,rfl⟩
 try refine Qb ?_
 refine Qi rfl (fun h=>?_) (fun h=>?_)
 ·have hin:i < P:=by omega
  have hv:=hms' i hin
  have hgi:=hgb i
  have rX:=hrow.at (U:=U9) (M:=(b11,.var (.slice (some ⟨bc,0,none⟩) P P),35)::(b6,.var (.agg #[.int .i64 0,.slice none 0 0]),37)::(Dc++((b10,.var (.slice (some ⟨bm,0,none⟩) P P),TIs)::(b5,.var (.int .i64 (P:Int)),TInt)::(b4,.var (.slice none 0 0),25)::(b3,.var (.agg #[.int .i64 (n:Int),.slice p (n*n) c]),24)::(Dm++M)))) sb
  repeat (first|refine Qc ?_|refine Qa fun _=>?_|refine w_al fun _=>?_)
  refine sl_y (Qf sym rfl rfl rfl rfl rfl rfl (rX.lt hv) (rX.get _ _ hv).1) rfl rfl rfl rfl ?_; refine sl_y (Qk sym rfl rfl rfl rfl rX hv rfl) rfl rfl rfl rfl ?_
  repeat (first|refine Qc ?_|refine Qa fun _=>?_|refine w_al fun _=>?_)
  refine Qx [4,5] [0,1,2,3,4,5] sym (by kernel_rfl) ?_
  repeat (first|refine Qc ?_|refine Qa fun _=>?_|refine w_al fun _=>?_)
  refine Qd rfl rfl rfl rfl rfl rfl (fun _=>(VU (z:=((g i:Nat):Int)) (by omega) (by omega)).settle) ?_
  rintro v Uh52 D hU ⟨rfl,_,_,⟨xh52,rfl,h52,-⟩,-,-,hs⟩
  replace h52:=h52.sett hs
  clear hs
  repeat (first|refine Qc ?_|refine Qa fun _=>?_|refine w_al fun _=>?_)
  refine QB (j:=i) hin rfl ?_
  refine QG (v:=xh52.v) (X:=(b11,.var (.slice (some ⟨bc,0,none⟩) P P),35)::(b6,.var (.agg #[.int .i64 0,.slice none 0 0]),37)::(b10,.var (.slice (some ⟨bm,0,none⟩) P P),TIs)::(b5,.var (.int .i64 (P:Int)),TInt)::(b4,.var (.slice none 0 0),25)::(b3,.var (.agg #[.int .i64 (n:Int),.slice p (n*n) c]),24)::(Dm++M)) hrc pgs hin (fun D3 hr3=>?_)
  refine Qj (M':=(b11,.var (.slice (some ⟨bc,0,none⟩) P P),35)::(b6,.var (.agg #[.int .i64 0,.slice none 0 0]),37)::(D3++((b10,.var (.slice (some ⟨bm,0,none⟩) P P),TIs)::(b5,.var (.int .i64 (P:Int)),TInt)::(b4,.var (.slice none 0 0),25)::(b3,.var (.agg #[.int .i64 (n:Int),.slice p (n*n) c]),24)::(Dm++M)))) ?_ pgs
  repeat (first|refine Qc ?_|refine Qa fun _=>?_|refine w_al fun _=>?_)
  refine Qg (E':=[(44,.int .i64 ((i:Int)+1)),(43,.int .i64 (P:Int)),(42,.slice (some ⟨bm,0,none⟩) P P),(11,.pointer (some ⟨b11,0,none⟩)),(6,.pointer (some ⟨b6,0,none⟩)),(7,.int .i64 0)]) (m:=P - (i+1)) ⟨rfl,rfl,rfl,rfl,rfl,rfl,trivial⟩ (by omega) ⟨i+1,cs.set i xh52.v,D3,by omega,hr3,(fun a x ha hx=>by
   by_cases e:i=a
   ·subst e
    rw [List.getElem?_set_self (by have:=hrc.len.1; omega)] at hx
    cases hx
    exact ⟨_,rfl,h52⟩
   ·rw [List.getElem?_set_ne e] at hx
    exact QF _ _ _ _ uc (hcs a x (by omega) hx)),rfl,uc,rfl,rfl⟩
 ·obtain rfl:P=i:=by omega
  have hg1:∀ q,Szq (((g q:Nat):Int):Rat) 1:=fun q=>Jx (by have:=hgb q; unfold Sz; omega) (by decide)
  have hser:Ls (Wq 1) 4 P U9 ((b11,.var (.slice (some ⟨bc,0,none⟩) P P),35)::(b6,.var (.agg #[.int .i64 0,.slice none 0 0]),37)::(Dc++((b10,.var (.slice (some ⟨bm,0,none⟩) P P),TIs)::(b5,.var (.int .i64 (P:Int)),TInt)::(b4,.var (.slice none 0 0),25)::(b3,.var (.agg #[.int .i64 (n:Int),.slice p (n*n) c]),24)::(Dm++M)))) (.slice (some ⟨bc,0,none⟩) P P) (fun q=>(((g q:Nat):Int):Rat)) :=
   ⟨_,_,cs,rfl,Nat.le_refl P,hrc.at sb,fun a x hx=>(hcs a x (by have:=(List.getElem?_eq_some_iff.1 hx).1; have:=hrc.len.1; omega) hx).w (hg1 a)⟩
  repeat (first|refine Qc ?_|refine Qa fun _=>?_|refine w_al fun _=>?_)
  refine Qd rfl rfl rfl rfl rfl rfl (fun _=>yR (N:=P) (b:=1) (f:=0) ⟨_,rfl,hser.up VM uc sb⟩ (Nat.le_refl 1) (by decide) (by decide) (by decide) (by omega)) ?_
  rintro v57 U57 D57 hU57 ⟨s,r,hs,rfl,hvs,rfl⟩
  rw [List.nil_append]
  obtain ⟨_,rfl,hvs⟩:=hvs
  obtain ⟨pv,cv',us,rfl,-⟩:=id hvs
  rw [show (0:Int)+(s:Int)=(s:Int) by omega]
  have hc8:=hcon (tup [.agg #[.int .i64 (s:Int),.slice pv (P - s) cv'],.int .i64 0]) U57 ⟨X,hX,fun _=>⟨s,_,by rw [← hbd]; rw [hg] at hs; exact hs,rfl,⟨_,rfl,by rw [← hbd]; rw [hg] at hvs; exact hvs⟩⟩,fun h=>by rw [← hbd] at h; omega⟩
  repeat (first|refine Qc ?_|refine Qa fun _=>?_|refine w_al fun _=>?_)
  exact Qe [] sym rfl (.cons (.cell 1 rfl rfl rfl) (.cons (.tmp rfl) .nil)) uc sb (.inl rfl) ⟨hc8.1,hc8.2,rfl⟩
theorem Qab {r prec:Int} {N c:Nat} {p:Option Addr} {vs:List Value} {f:Nat→Int} (rw1:RowAt U [] 1 p N vs) (el:El Vz U vs f) (hN:N≤9223372036854775807) (h64 : -9223372036854775808≤prec∧prec≤9223372036854775807) :
  Ct Tryz.prog 15 [.agg #[.int .i64 r,.slice p N c],.int .i64 prec] G U M fun v U' D=>(chk r N f≠0→v = .tuple #[.agg #[.int .i64 0,.slice none 0 0],.int .i64 (chk r N f)]) ∧
   (∀ n:Nat,r=(n:Int)→chk r N f=0→((prec < 0∨1000 < prec)→v = .tuple #[.agg #[.int .i64 0,.slice none 0 0],.int .i64 2])∧(∀ P:Nat,prec=(P:Int)→P≤1000→WgtO n f P U' v))∧D=[]:=by
 refine Qh Tryz.func15 rfl rfl rfl rfl ?_
 repeat (first|refine Qc ?_|refine Qa fun _=>?_|refine w_al fun _=>?_)
 rename_i b2 b4
 refine Qd rfl rfl rfl rfl rfl rfl (fun _=>qz (rw1.up uc (List.nil_sublist _)) (el.up KeptC.out uc) hN) ?_
 rintro v1 U1 D hU1 ⟨rfl,-,rfl⟩
 rw [List.nil_append]
 repeat (first|refine Qc ?_|refine Qa fun _=>?_|refine w_al fun _=>?_)
 refine QK rfl (fun h=>?_) (fun h=>?_)
 ·repeat (first|refine Qc ?_|refine Qa fun _=>?_|refine w_al fun _=>?_)
  exact Qe [] sym rfl (.cons (.cell 0 rfl rfl rfl) (.cons (.tmp rfl) .nil)) uc sb (.inl rfl) ⟨fun _=>rfl,fun _ _ h0=>absurd h0 h,rfl⟩
 obtain ⟨n,rfl,hn1,hn8,rfl,hb,he,hp⟩:=Jm h
 rw [h]
 repeat (first|refine Qc ?_|refine Qa fun _=>?_|refine w_al fun _=>?_)
 refine Qd rfl rfl rfl rfl rfl rfl (fun _=>QaA (rw1.up uc (List.nil_sublist _)) (el.up KeptC.out uc) hb he hp hn1 hn8 h64) ?_
 rintro v2 U2 D hU2 ⟨hv1,hv2,rfl⟩
 rw [List.nil_append]
 obtain ⟨F,pk,k,ck,e,rfl⟩:∃ (F:Int) (pk:Option Addr) (k ck:Nat) (e:Int),v2 = .tuple #[.agg #[.int .i64 F,.slice pk k ck],.int .i64 e]:=by
  by_cases hpr:prec < 0∨1000 < prec
  ·exact ⟨_,_,_,_,_,hv1 hpr⟩
  ·exact Qeh (hv2 prec.toNat (by omega) (by omega))
 have hc8:∀ n':Nat,(n:Int)=(n':Int)→(0:Int)=0→((prec < 0∨1000 < prec)→tup [.agg #[.int .i64 F,.slice pk k ck],.int .i64 e] = .tuple #[.agg #[.int .i64 0,.slice none 0 0],.int .i64 2])∧(∀ P:Nat,prec=(P:Int)→P≤1000→WgtO n' f P U2 (tup [.agg #[.int .i64 F,.slice pk k ck],.int .i64 e])):=fun n' e _=>by
  obtain rfl:n=n':=Int.ofNat.inj e
  exact ⟨hv1,hv2⟩
 repeat (first|refine Qc ?_|refine Qa fun _=>?_|refine w_al fun _=>?_)
 exact Qe [] sym rfl (.cons (.cell 0 rfl rfl rfl) (.cons (.tmp rfl) .nil)) uc sb (.inl rfl) ⟨fun h=>absurd rfl h,hc8,rfl⟩
end Go.Proofs.YthnnlgjlhnmhnaaGreat

/- The example of layer 36: plain part. -/
namespace Go.Proofs.YthnnlgjlhnmhnaaGreat
open Go.Hp
variable {G:World} {U U':UH} {M:MH}
theorem Qas {b b':Nat→Nat} {n:Nat} (h:∀ i,i < n→b i=b' i):∀ k,k≤n→Bx.vol b n k=Bx.vol b' n k
 | 0,_=>rfl
 | k+1,hk=>by
  show (2*b (n - (k+1))+1)*Bx.vol b n k=_
  rw [Qas h k (by omega),h _ (by omega)]; rfl
theorem Qat {b b':Nat→Nat} {n k i:Nat} (h:∀ i,i < n→b i=b' i) (hi:i < n):Bx.vec b n k i=Bx.vec b' n k i:=by
 unfold Bx.vec Bx.dig Bx.str
 rw [Qas h _ (by omega),h i hi]
theorem qG {b b':Nat→Nat}:∀ {n:Nat},(∀ i,i < n→b i=b' i)→Bx.pre b n=Bx.pre b' n
 | 0,_=>rfl
 | n+1,h=>by
  show Bx.pre b n*(2*b n+1)=_
  rw [qG fun i hi=>h i (by omega),h n (by omega)]; rfl
theorem Qfz {n:Nat} {f x y:Nat→Int} (h:∀ i,i < n→x i=y i):qv n f x=qv n f y:=by
 unfold qv qp rp
 rw [Lr.sm_congr fun a ha=>by rw [h a ha,Lr.sm_congr fun j hj=>by rw [h j hj]]]
theorem QbL {n k:Nat} {f:Nat→Int} {b b':Nat→Nat} (h:∀ i,i < n→b i=b' i):vn n f b k=vn n f b' k:=by
 unfold vn
 rw [Qfz fun i hi=>Qat h hi]
theorem Qfk {n k q:Nat} {f:Nat→Int} {b b':Nat→Nat} (h:∀ i,i < n→b i=b' i):cv n f b k q=cv n f b' k q :=
 Bx.cnt_congr fun t _=>by rw [QbL h]
theorem QdD {n m i:Nat} {f:Nat→Int} {X Y:Nat→Nat→Rat} (h:Inv n f X) (h':Inv n f Y) (hi:i < n):bd X m i=bd Y m i:=by
 unfold bd
 rw [h.uniq h' hi hi]
def fa2:Nat→Int:=fun k=>([2,1,1,2]:List Int).getD k 0
theorem QiQ:Pdm 2 fa2:=fun k h1 h2=>by
 have e:La.det k (fun i j=>((fa2 (i*2+j):Int):Rat))=((Lr.det k (fun i j=>fa2 (i*2+j)):Int):Rat):=by
  have h:=Fq.hom_q.det k fun i j=>fa2 (i*2+j)
  rw [Lr.det_la] at h
  exact h.symm
 rw [e]
 refine Rat.intCast_lt_intCast.2 ?_
 rcases show k=1∨k=2 by omega with rfl | rfl<;>decide
theorem Qcr:chk 2 4 fa2=0:=by
 unfold chk
 rw [if_neg (by decide),if_neg (by decide),if_neg (Classical.not_not.2 (by
  intro k hk
  rcases show k=0∨k=1∨k=2∨k=3 by omega with rfl | rfl | rfl | rfl<;>decide)),if_neg (Classical.not_not.2 (show Evn (Int.toNat 2) fa2 from fun i (hi:i < 2)=>⟨fun k (hk:k < 2)=>by
   rcases show i=0∨i=1 by omega with rfl | rfl<;>rcases show k=0∨k=1 by omega with rfl | rfl<;>rfl,by rcases show i=0∨i=1 by omega with rfl | rfl<;>decide⟩)),if_neg (Classical.not_not.2 (show Pdm (Int.toNat 2) fa2 from QiQ))]
theorem Qix {X:Nat→Nat→Rat} (hX:∀ i j,i < 2→j < 2→La.mm 2 X (gq 2 fa2) i j=La.idm i j):Inv 2 fa2 X:=by
 obtain ⟨n,e,h1,h8,-,hb,he,hp⟩:=Jm Qcr
 obtain rfl:2=n:=Int.ofNat.inj e
 exact QaN hb he hp h1 h8 hX
theorem Qge {X:Nat→Nat→Rat} (h:Inv 2 fa2 X):X 0 0=2 / 3∧X 0 1 = -1 / 3∧X 1 0 = -1 / 3∧X 1 1=2 / 3:=by
 have h3:(3:Rat)≠0:=by decide
 have key:∀ (x a:Rat),3*x=a→x=a / 3:=fun x a e=>by rw [← e,Rat.div_def,Rat.mul_comm 3 x,Rat.mul_assoc,Rat.mul_inv_cancel _ h3,Rat.mul_one]
 have hd:Lr.det 2 (gz 2 fa2)=3:=by decide
 have a:=h.adj
 rw [hd] at a
 exact ⟨key _ _ ((a 0 0 (by decide) (by decide)).trans (by rw [show Lr.adj 2 (gz 2 fa2) 0 0=2 by decide]; rfl)),key _ _ ((a 0 1 (by decide) (by decide)).trans (by rw [show Lr.adj 2 (gz 2 fa2) 0 1 = -1 by decide]; rfl)),
  key _ _ ((a 1 0 (by decide) (by decide)).trans (by rw [show Lr.adj 2 (gz 2 fa2) 1 0 = -1 by decide]; rfl)),key _ _ ((a 1 1 (by decide) (by decide)).trans (by rw [show Lr.adj 2 (gz 2 fa2) 1 1=2 by decide]; rfl))⟩
theorem Qjq {X:Nat→Nat→Rat} (h:Inv 2 fa2 X):∀ i,i < 2→bd X 3 i=2:=fun i hi=>by
 obtain ⟨x0,-,-,x1⟩:=Qge h
 have e:((((2*(3:Nat):Int)):Rat)*(2 / 3)).floor.natAbs=4:=by decide +kernel
 unfold bd
 rcases show i=0∨i=1 by omega with rfl | rfl
 ·rw [x0,e]; exact (Bx.isq_at (A:=4) (R:=2) (by decide) (by decide)).symm
 ·rw [x1,e]; exact (Bx.isq_at (A:=4) (R:=2) (by decide) (by decide)).symm
theorem Qjt {X:Nat→Nat→Rat} (h:Inv 2 fa2 X):Fq.lv (dlv 2 X) (2*2)=3:=by
 obtain ⟨x0,x1,x2,x3⟩:=Qge h
 have d0:dlv 2 X 0=3:=by show (X 0 0*((1:Rat) / 2)).den=3; rw [x0]; decide +kernel
 have d1:dlv 2 X 1=3:=by show (X 0 1).den=3; rw [x1]; decide +kernel
 have d2:dlv 2 X 2=3:=by show (X 1 0).den=3; rw [x2]; decide +kernel
 have d3:dlv 2 X 3=3:=by show (X 1 1*((1:Rat) / 2)).den=3; rw [x3]; decide +kernel
 show Fq.lv (dlv 2 X) (0+1+1+1+1)=3
 simp only [Fq.lv,Nat.zero_add,d0,d1,d2,d3]
 decide
theorem Qju:∀ q,q < 4→cv 2 fa2 (fun _=>2) 25 q=([1,6,0,6]:List Nat).getD q 0:=fun q hq=>by
 rcases show q=0∨q=1∨q=2∨q=3 by omega with rfl | rfl | rfl | rfl<;>decide +kernel
end Go.Proofs.YthnnlgjlhnmhnaaGreat

/- Walks of layer 36: SameSeries, awake. -/
namespace Go.Proofs.YthnnlgjlhnmhnaaGreat
open Go.Hp
variable {G:World} {U U':UH} {M:MH}
theorem YX {v w:Value} {f1 f2:Int} {m n:Nat} {g g':Nat→Rat} (h:Vser Vq U M v f1 m g) (h':Vser Vq U M w f2 n g') (hm:m≤1000000000) (hn:n≤1000000000) :
  Ct Tryz.prog 11 [v,w] G U M fun v U' D=>∃ b:Bool,v = .bool b∧(b=true↔f1=f2∧m=n∧∀ i,i < n→g i=g' i)∧U=U'∧D=[]:=by
 obtain ⟨_,rfl,h1⟩:=h
 obtain ⟨_,rfl,h2⟩:=h'
 obtain ⟨p,c,vs,rfl,-⟩:=id h1
 obtain ⟨p',c',vs',rfl,-⟩:=id h2
 refine Qh Tryz.func11 rfl rfl rfl rfl ?_
 repeat (first|refine Qc ?_|refine Qa fun _=>?_|refine w_al fun _=>?_)
 refine Qw rfl rfl (fun he=>?_) (fun he=>?_)
 ·repeat (first|refine Qc ?_|refine Qa fun _=>?_|refine w_al fun _=>?_)
  refine Qd rfl rfl rfl rfl rfl rfl (fun _=>Qbd (h1.up QF uc sb) (h2.up QF uc sb) hm hn) ?_
  rintro v1 U1 D1 hU1 ⟨b,rfl,hb,rfl,rfl⟩
  rw [List.nil_append]
  repeat (first|refine Qc ?_|refine Qa fun _=>?_|refine w_al fun _=>?_)
  exact Qe [] sym rfl (.cons (.tmp rfl) .nil) uc sb (.inl rfl) ⟨b,rfl,⟨fun h=>⟨he,hb.1 h⟩,fun h=>hb.2 h.2⟩,rfl,rfl⟩
 ·repeat (first|refine Qc ?_|refine Qa fun _=>?_|refine w_al fun _=>?_)
  exact Qe [] sym rfl (.cons (.tmp rfl) .nil) uc sb (.inl rfl) ⟨false,rfl,⟨(fun h=>by cases h),fun h=>absurd h.1 he⟩,rfl,rfl⟩
theorem VW:Ct Tryz.prog 6 [] G U M fun v U' D=>v = .bool true∧ULe U U'∧D=[]:=by
 have rng:∀ l:List Int,(l.all fun z=>decide (-9223372036854775808≤z∧z≤9223372036854775807))=true→∀ z ∈ l,-9223372036854775808≤z∧z≤9223372036854775807:=fun l h z hz=>of_decide_eq_true (List.all_eq_true.1 h z hz)
 refine Qh Tryz.func6 rfl rfl rfl rfl ?_
 repeat (first|refine Qc ?_|refine Qa fun _=>?_|refine w_al fun _=>?_)
 refine QJ (vs:=[.int .i64 2,.int .i64 1,.int .i64 1,.int .i64 2]) sym rfl rfl rfl rfl rfl rfl (vd rfl) rfl rfl rfl rfl rfl rfl (fun b6=>?_)
 repeat (first|refine Ji ?_|refine Qa fun _=>?_|refine w_al fun _=>?_)
 rename_i b1
 refine Yu (M':=([(b6,Blk.arr [.int .i64 2,.int .i64 1,.int .i64 1,.int .i64 2],TInt)]:MH)++((b1,.var (.agg #[.int .i64 2,.slice (some ⟨b6,0,none⟩) 4 4]),24)::M)) (List.Perm.swap _ _ _) ?_
 refine Qbc fun Us hUs hs=>?_
 have hrow:RowO TInt 1 [(b6,.arr [.int .i64 2,.int .i64 1,.int .i64 1,.int .i64 2],TInt)] (some ⟨b6,0,none⟩) 4 4 [.int .i64 2,.int .i64 1,.int .i64 1,.int .i64 2]:=RowO.mk rfl (vd rfl) (by decide)
 have rw1:=hrow.sett hs
 have el:El Vz Us [.int .i64 2,.int .i64 1,.int .i64 1,.int .i64 2] fa2:=fun k x hk=>by
  have hk4:k < 4:=(List.getElem?_eq_some_iff.1 hk).1
  rcases show k=0∨k=1∨k=2∨k=3 by omega with rfl | rfl | rfl | rfl<;>cases hk<;>exact ⟨rfl,by decide,by decide⟩
 clear hrow hs
 try refine Qb ?_
 refine Qd rfl rfl rfl rfl rfl rfl (fun _=>Qab (r:=2) (prec:=4) rw1 el (by decide) (by decide)) ?_
 rintro v2 U2 D2 hU2 ⟨-,hv,rfl⟩
 rw [List.nil_append]
 obtain ⟨X,hX,hv,-⟩:=(hv 2 rfl Qcr).2 4 rfl (by decide)
 have hbd:=Qjq hX
 have hpre:Bx.pre (bd X (4 - 1)) 2=25:=(qG (b':=fun _=>2) hbd).trans rfl
 rw [hpre] at hv
 obtain ⟨s,r,hs,rfl,_,rfl,hser⟩:=hv (by decide)
 have hg:∀ q,q < 4→cv 2 fa2 (bd X (4 - 1)) 25 q=([1,6,0,6]:List Nat).getD q 0:=fun q hq=>(Qfk (b':=fun _=>2) hbd).trans (Qju q hq)
 obtain rfl:s=0:=by
  rcases Nat.eq_zero_or_pos s with h | h
  ·exact h
  ·have h1:(((cv 2 fa2 (bd X (4 - 1)) 25 0:Nat):Int):Rat)=0:=hs.2.1 0 h
   rw [hg 0 (by decide)] at h1
   exact absurd h1 (by decide)
 obtain ⟨pv,cw,us,rfl,-⟩:=id hser
 repeat (first|refine Qc ?_|refine Qa fun _=>?_|refine w_al fun _=>?_)
 refine Qd rfl rfl rfl rfl rfl rfl (fun _=>QeK (r:=2) (rw1.up uc (List.nil_sublist _)) (el.up KeptC.out uc) (by decide)) ?_
 rintro v3 U3 D3 hU3 ⟨-,hl,rfl⟩
 rw [List.nil_append]
 obtain ⟨Y,hY,rfl⟩:=hl 2 rfl Qcr
 rw [Qjt (Qix hY),if_pos (by decide)]
 repeat (first|refine Qc ?_|refine Qa fun _=>?_|refine w_al fun _=>?_)
 refine Qt [0,1,2,3,4,5,6,7,8,9,10,11,12,13,14,15,16,17] sym (by kernel_rfl) ?_
 repeat (first|refine Qc ?_|refine Qa fun _=>?_|refine w_al fun _=>?_)
 refine Qw rfl rfl (fun _=>?_) (fun h=>absurd rfl h)
 repeat (first|refine Qc ?_|refine Qa fun _=>?_|refine w_al fun _=>?_)
 refine Qw rfl rfl (fun _=>?_) (fun h=>absurd rfl h)
 repeat (first|refine Qc ?_|refine Qa fun _=>?_|refine w_al fun _=>?_)
 refine Qw rfl rfl (fun _=>?_) (fun h=>absurd rfl h)
 repeat (first|refine Qc ?_|refine Qa fun _=>?_|refine w_al fun _=>?_)
 refine QJ (vs:=[.int .i64 1,.int .i64 6,.int .i64 0,.int .i64 6]) sym rfl rfl rfl rfl rfl rfl (vd rfl) rfl rfl rfl rfl rfl rfl (fun b8=>?_)
 repeat (first|refine Qc ?_|refine Qa fun _=>?_|refine w_al fun _=>?_)
 refine Qd rfl rfl rfl rfl rfl rfl (fun _=>(QiZ (n:=4) (QhC (l:=[1,6,0,6]) (e:=TInt) (rng _ rfl) rfl (by decide) sb) (by decide)).setl QF) ?_
 rintro v8 U8 D8 hU8 ⟨h8,rfl⟩
 try rw [List.nil_append]
 obtain ⟨p8,c8,us8,rfl,-⟩:=id h8
 repeat (first|refine Qc ?_|refine Qa fun _=>?_|refine w_al fun _=>?_)
 refine Qd rfl rfl rfl rfl rfl rfl (fun _=>YX (m:=4) (n:=4) (g:=fun k=>(((cv 2 fa2 (bd X (4 - 1)) 25 (0+k):Nat):Int):Rat)) (g':=fun k=>((([1,6,0,6]:List Int).getD k 0:Int):Rat)) ⟨_,rfl,hser.up QF uc sb⟩ ⟨_,rfl,h8.up QF uc sb⟩ (by decide) (by decide)) ?_
 rintro v9 U9 D9 hU9 ⟨b,rfl,hb,rfl,rfl⟩
 obtain rfl:=hb.2 ⟨rfl,rfl,fun q hq=>by
  show (((cv 2 fa2 (bd X (4 - 1)) 25 (0+q):Nat):Int):Rat)=_
  rw [Nat.zero_add,hg q hq]
  rcases show q=0∨q=1∨q=2∨q=3 by omega with rfl | rfl | rfl | rfl<;>rfl⟩
 rw [List.nil_append]
 repeat (first|refine Qc ?_|refine Qa fun _=>?_|refine w_al fun _=>?_)
 exact Qe [] sym rfl (.cons (.tmp rfl) .nil) uc sb (.inl rfl) ⟨rfl,uc,rfl⟩
end Go.Proofs.YthnnlgjlhnmhnaaGreat

/- Walks of layer 36: binary forms are checked. -/
namespace Go.Hp
variable {P:Program} {T:TT} {N:Nat} {G:World} {E:Env} {U:UH} {M:MH} {o:Oper}
theorem QiD {t e len j:Nat} {x y:Operand} {cs:List Value} {v:Value} {k:IntKind} {ti:TI} (hu:P.underlying t=some (.array len e)) (he:TI.ok P e ti) (h1:ti.size=1) (hk:one ti.k=true)
  (ho:o.op = .index t x y) (hx:ev E x=some (.agg cs.toArray)) (hy:ev E y=some (.int k (j:Int))) (hj:j < len) (hc:cs[j]?=some v):Yl P N G o E U M v:=by
 refine ⟨fun r w ha hw=>?_⟩
 have hs:=he.run_size (P:=P) w
 rw [h1] at hs
 have hg:=Vt he hk w
 simp only [execOp,ho,Instr.index,Sem.run_bind,ha.eval hx,ha.eval hy,Qm hu,Result.andThen_ok,asIntOf,Sem.run_pure]
 rw [if_pos ⟨by omega,by omega⟩]
 simp [hs,part,hg,hc]
end Go.Hp
namespace Go.Proofs.YthnnlgjlhnmhnaaGreat
open Go.Hp
variable {G:World} {U U':UH} {M:MH}
end Go.Proofs.YthnnlgjlhnmhnaaGreat

/- Walks of layer 36: binary forms (printed by gen215.py). -/
namespace Go.Proofs.YthnnlgjlhnmhnaaGreat
open Go.Hp
open Classical
variable {G:World} {U U':UH} {M:MH}
end Go.Proofs.YthnnlgjlhnmhnaaGreat

/- Walks of layer 36: Binary, fits, same. -/
namespace Go.Proofs.YthnnlgjlhnmhnaaGreat
open Go.Hp
open Classical
variable {G:World} {U U':UH} {M:MH}
end Go.Proofs.YthnnlgjlhnmhnaaGreat
