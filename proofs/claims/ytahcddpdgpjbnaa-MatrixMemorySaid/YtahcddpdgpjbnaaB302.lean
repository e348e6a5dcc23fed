/- Matrices in the caller's memory: load, Add, Mul, Transpose (printed by gen302.py) -/
import Derived.Test.YtahcddpdgpjbnaaB301
import Derived.Test.YtahcddpdgpjbnaaM37
import Derived.Test.YtahcddpdgpjbnaaM96
import Derived.Test.YtahcddpdgpjbnaaM23
import Derived.Test.YtahcddpdgpjbnaaM26
namespace Go.Proofs.Ytahcddpdgpjbnaa
open Go.Hp
variable {G:World} {U U':UH} {M M':MH}
theorem Yx {r c b:Nat} {vm:Value} {A:Nat→Nat→Rat} (hm:Vx M b r c U vm A) (hb:b≤10000000000) (hr:r≤100000) (hc:c≤100000) (hrc:r*c≤100000000) :
  Ct Try.prog 26 [vm] G U M fun v U' D=>Go rO r c U' D v A∧ULe U U':=by
 obtain ⟨_,rfl,p,cc,as1,rfl,-,rw1,el⟩:=hm
 refine Qf Try.func26 rfl rfl rfl rfl ?_
 repeat (first|refine Qc ?_|refine Qb fun _=>?_|refine w_al fun _=>?_)
 rename_i b1
 refine Jn (m:=r) (n:=r) sym rfl rfl rfl rfl rfl rfl rfl rfl rfl (Nat.le_refl r) (by omega) (by omega) rfl rfl rfl rfl (fun b2=>?_)
 have hrow:=JE (e:=TRs) (s:=1) (b:=b2) (n:=r) (z := .slice none 0 0) rfl (by omega)
 try refine Qa ?_
 refine JY (M':=(b1,.var (.agg #[.int .i64 (r:Int),.int .i64 (c:Int),.slice p (r*c) cc]),TM)::([(b2,.arr (List.replicate r (.slice none 0 0)),TRs)]++M)) pm ?_
 refine Qm (fun z E U' M'=>∃ (i:Nat) (svs:List Value) (D:MH) (F:List MH),i≤r∧RowO TRs 1 D (some ⟨b2,0,none⟩) r r svs∧Gs rO c U' (svs.take i) F A∧E=[(11,.int .i64 (i:Int)),(3,.slice (some ⟨b2,0,none⟩) r r),(10,.int .i64 (r:Int)),(1,.pointer (some ⟨b1,0,none⟩))]∧ULe U U' ∧
   M'=(b1,.var (.agg #[.int .i64 (r:Int),.int .i64 (c:Int),.slice p (r*c) cc]),TM)::(D++(F.flatten++M))∧z=r - i) (n0:=r)
  (E0:=[(11,.int .i64 ((0:Nat):Int)),(3,.slice (some ⟨b2,0,none⟩) r r),(10,.int .i64 (r:Int)),(1,.pointer (some ⟨b1,0,none⟩))]) ⟨rfl,rfl,rfl,rfl,trivial⟩ ⟨0,_,[(b2,_,_)],[],by omega,hrow,Gs.nil,rfl,uc,rfl,rfl⟩ ?_
 clear hrow
 rintro z E U1 M' ⟨i,svs,D,F,hi,hrow,hg,rfl,hU1,rfl,rfl⟩
 try refine Qa ?_
 refine Qk rfl (fun h=>?_) (fun h=>?_)
 ·have hir:i < r:=by omega
  try refine Qa ?_
  refine Jn (m:=c) (n:=c) sym rfl rfl rfl rfl rfl rfl rfl rfl rfl (Nat.le_refl c) (by omega) (by omega) rfl rfl rfl rfl (fun b3=>?_)
  have hrow2:=JE (e:=TR) (s:=4) (b:=b3) (n:=c) (z := .agg #[.bool false,.slice none 0 0,.bool false,.slice none 0 0]) rfl (by omega)
  refine QF (j:=i) hir rfl ?_
  refine QZ (X:=(b3,.arr (List.replicate c (.agg #[.bool false,.slice none 0 0,.bool false,.slice none 0 0])),TR)::(b1,.var (.agg #[.int .i64 (r:Int),.int .i64 (c:Int),.slice p (r*c) cc]),TM)::(F.flatten++M)) hrow pm hir (fun D2 hr2=>?_)
  refine Qg (M':=(b1,.var (.agg #[.int .i64 (r:Int),.int .i64 (c:Int),.slice p (r*c) cc]),TM)::([(b3,.arr (List.replicate c (.agg #[.bool false,.slice none 0 0,.bool false,.slice none 0 0])),TR)]++(D2++(F.flatten++M)))) ?_ pm
  have hsl:=hrow.len.1
  have hvi:(svs.set i (.slice (some ⟨b3,0,none⟩) c c))[i]?=some (.slice (some ⟨b3,0,none⟩) c c):=List.getElem?_set_self (by omega)
  have hgi:Gs rO c U1 ((svs.set i (.slice (some ⟨b3,0,none⟩) c c)).take i) F A:=by rw [List.take_set_of_le (Nat.le_refl i)]; exact hg
  generalize svs.set i (.slice (some ⟨b3,0,none⟩) c c)=sv2 at hr2 hvi hgi
  clear hrow hg hsl
  try refine Qa ?_
  have rO:=hr2.at (U:=U1) (M:=(b1,.var (.agg #[.int .i64 (r:Int),.int .i64 (c:Int),.slice p (r*c) cc]),TM)::([(b3,.arr (List.replicate c (.agg #[.bool false,.slice none 0 0,.bool false,.slice none 0 0])),TR)]++(D2++(F.flatten++M)))) sb
  refine sl_y (Qj sym rfl rfl rfl rfl rfl rfl (rO.lt hvi) (rO.get _ _ hvi).1) rfl rfl rfl rfl ?_; refine sl_y (Qp sym rfl rfl rfl rfl rO hvi rfl) rfl rfl rfl rfl ?_
  try refine Qa ?_
  refine Qm (fun z E U' M'=>∃ (j:Nat) (us:List Value) (Dr:MH),j≤c∧RowO TR 4 Dr (some ⟨b3,0,none⟩) c c us∧ElTo Vq U' j us (A i)∧E=[(25,.int .i64 (j:Int)),(24,.int .i64 (c:Int)),(4,.int .i64 (i:Int)),(11,.int .i64 (i:Int)),(3,.slice (some ⟨b2,0,none⟩) r r),(10,.int .i64 (r:Int)),(1,.pointer (some ⟨b1,0,none⟩))]∧ULe U1 U' ∧
    M'=(b1,.var (.agg #[.int .i64 (r:Int),.int .i64 (c:Int),.slice p (r*c) cc]),TM)::(Dr++(D2++(F.flatten++M)))∧z=c - j) (n0:=c)
   (E0:=[(25,.int .i64 ((0:Nat):Int)),(24,.int .i64 (c:Int)),(4,.int .i64 (i:Int)),(11,.int .i64 (i:Int)),(3,.slice (some ⟨b2,0,none⟩) r r),(10,.int .i64 (r:Int)),(1,.pointer (some ⟨b1,0,none⟩))]) ⟨rfl,rfl,rfl,rfl,rfl,rfl,rfl,trivial⟩ ⟨0,_,_,by omega,hrow2,(fun k x hk=>absurd hk (Nat.not_lt_zero k)),rfl,uc,rfl,rfl⟩ ?_
  clear hrow2
  rintro z E U2 M' ⟨j,us,Dr,hj,hrow,hel,rfl,hU2,rfl,rfl⟩
  try refine Qa ?_
  refine Qk rfl (fun h2=>?_) (fun h2=>?_)
  ·have hjc:j < c:=by omega
   have hlt:=vG hir hjc
   obtain ⟨v1,hv1⟩:=rw1.at hlt
   obtain ⟨x1,rfl,hx1,hn1⟩:=el _ _ hv1
   rw [qI hjc] at hx1
   try refine Qa ?_
   refine QH [16,17] [0,1,2,3,4,5,6,7,8,9,10,11,12,13,14,15,16,17] sym (by kernel_rfl) ?_
   try refine Qa ?_
   have rO:=hr2.at (U:=U2) (M:=(b1,.var (.agg #[.int .i64 (r:Int),.int .i64 (c:Int),.slice p (r*c) cc]),TM)::(Dr++(D2++(F.flatten++M)))) sb
   refine sl_y (Qj sym rfl rfl rfl rfl rfl rfl (rO.lt hvi) (rO.get _ _ hvi).1) rfl rfl rfl rfl ?_; refine sl_y (Qp sym rfl rfl rfl rfl rO hvi rfl) rfl rfl rfl rfl ?_
   try refine Qa ?_
   refine sl_y (Qj sym rfl rfl rfl rfl rfl ( by omega) ((rw1.up uc sb).lt hv1) ((rw1.up uc sb).get _ _ hv1).1) rfl rfl rfl rfl ?_; refine sl_y (Qu sym rfl rfl rfl rfl rfl (rw1.up uc sb) hv1) rfl rfl rfl rfl ?_
   try refine Qa ?_
   refine Qd rfl rfl rfl rfl rfl rfl (fun _=>(YF (hx1.up uc sb) (by omega)).settle) ?_
   rintro v Uh3 D hU ⟨rfl,_,_,⟨xh3,rfl,h3,-⟩,-,-,hs⟩
   replace h3:=h3.sett hs
   clear hs
   repeat (first|refine Qc ?_|refine Qb fun _=>?_|refine w_al fun _=>?_)
   refine QF (j:=j) hjc rfl ?_
   refine QZ (v:=xh3.v) (X:=(b1,.var (.agg #[.int .i64 (r:Int),.int .i64 (c:Int),.slice p (r*c) cc]),TM)::(D2++(F.flatten++M))) hrow pm hjc (fun D4 hr4=>?_)
   refine Qg ?_ perm1
   try refine Qa ?_
   exact Qi (E':=[(25,.int .i64 ((j:Int)+1)),(24,.int .i64 (c:Int)),(4,.int .i64 (i:Int)),(11,.int .i64 (i:Int)),(3,.slice (some ⟨b2,0,none⟩) r r),(10,.int .i64 (r:Int)),(1,.pointer (some ⟨b1,0,none⟩))]) (m:=c - (j+1)) ⟨rfl,rfl,rfl,rfl,rfl,rfl,rfl,trivial⟩ (by omega)
    ⟨j+1,_,D4,by omega,hr4,(hel.up QA uc).next ⟨xh3,rfl,h3⟩,rfl,uc,rfl,rfl⟩
  ·have e:j=c:=by omega
   subst e
   try refine Qa ?_
   refine qa (M':=(b1,.var (.agg #[.int .i64 (r:Int),.int .i64 (j:Int),.slice p (r*j) cc]),TM)::(D2++((F++[Dr]).flatten++M))) pm ?_
   exact Qi (E':=[(11,.int .i64 ((i:Int)+1)),(3,.slice (some ⟨b2,0,none⟩) r r),(10,.int .i64 (r:Int)),(1,.pointer (some ⟨b1,0,none⟩))]) (m:=r - (i+1)) ⟨rfl,rfl,rfl,rfl,trivial⟩ (by omega)
    ⟨i+1,sv2,D2,F++[Dr],by omega,hr2,by
     rw [List.take_add_one,hvi]
     exact (hgi.up uc).snoc (by rw [List.length_take,hr2.len.1]; omega) (Nat.le_refl _) hrow (hel.all hrow.len.1),rfl,uc,rfl,rfl⟩
 ·have e:i=r:=by omega
  subst e
  try refine Qa ?_
  rw [List.take_of_length_le (by rw [hrow.len.1]; exact Nat.le_refl _)] at hg
  exact Qe (D++F.flatten) sym rfl (.cons (.tmp rfl) .nil) uc sb (.inl rfl) ⟨⟨D,F,_,_,svs,rfl,rfl,hrow,hg⟩,uc⟩
theorem Qcc {r c b:Nat} {vm:Value} {A:Nat→Nat→Rat} (hm:Vx M b r c U vm A) (hb:b≤10000000000) (hr:r≤100000) (hc:c≤100000) (hrc:r*c≤100000000) :
  Ct Try.prog 26 [vm] G U M fun v U' D=>Lg r c U' [] v A∧D=[] :=
 (Yx hm hb hr hc hrc).settle.mono fun _ _ _ _ ⟨h1,_,_,⟨h2,_⟩,_,h7,h8⟩=>⟨Lg.of_s (h2.sett h7 h8),h1⟩
theorem Qce {c r n b:Nat} {cs:List Value} {op:Rat→Rat→Rat} {va vb:Value} {A B:Nat→Nat→Rat} (ha:Vx M b r n U va A) (hv:Vx M b r n U vb B)
  (hdo:∀ (U':UH) (M':MH) (x y:QV) (p q:Rat),ULe U U'→M.Sublist M'→x.rep U' M' p→x.le b→y.rep U' M' q→y.le b→Ct Try.prog c ([x.v,y.v]++cs) G U' M' fun v U'' D=>∃ z:QV,v=z.v∧z.own D (op p q)∧ULe U' U'') (hr:r≤1000) (hn:n≤1000) :
  Ct Try.prog 23 [va,vb,.func (.func c) #[] cs.toArray] G U M fun v U' D=>∃ vC,v = .tuple #[vC,.int .i64 0]∧Vmo r n U' D vC (fun i j=>op (A i j) (B i j))∧ULe U U':=by
 have hrn:r*n≤1000*1000:=Nat.mul_le_mul hr hn
 obtain ⟨_,rfl,pa,cca,as1,rfl,hca,ra,ea⟩:=ha
 obtain ⟨_,rfl,pb,ccb,bs1,rfl,hcb,rb,eb⟩:=hv
 refine Qf Try.func23 rfl rfl rfl rfl ?_
 repeat (first|refine Qc ?_|refine Qb fun _=>?_|refine w_al fun _=>?_)
 rename_i b3 b4 b6
 refine Qd rfl rfl rfl rfl rfl rfl (fun _=>QI (r:=(r:Int)) (c:=(n:Int)) (n:=r*n) (p:=pa) (cc:=cca) (by omega)) ?_
 rintro v U' D hU ⟨rfl,rfl,rfl⟩
 repeat (first|refine Qc ?_|refine Qb fun _=>?_|refine w_al fun _=>?_)
 rw [decide_eq_true (Yd (by omega) (by omega))]
 repeat (first|refine Qc ?_|refine Qb fun _=>?_|refine w_al fun _=>?_)
 refine Qd rfl rfl rfl rfl rfl rfl (fun _=>QI (r:=(r:Int)) (c:=(n:Int)) (n:=r*n) (p:=pb) (cc:=ccb) (by omega)) ?_
 rintro v U' D hU ⟨rfl,rfl,rfl⟩
 repeat (first|refine Qc ?_|refine Qb fun _=>?_|refine w_al fun _=>?_)
 rw [decide_eq_true (Yd (by omega) (by omega))]
 repeat (first|refine Qc ?_|refine Qb fun _=>?_|refine w_al fun _=>?_)
 refine Qw rfl rfl (fun h=>absurd rfl h) (fun _=>?_)
 repeat (first|refine Qc ?_|refine Qb fun _=>?_|refine w_al fun _=>?_)
 refine JU rfl (fun h=>absurd rfl h) (fun _=>?_)
 repeat (first|refine Qc ?_|refine Qb fun _=>?_|refine w_al fun _=>?_)
 refine QH [10] [0,1,2,3,4,5,6,7,8,9,10] sym (by kernel_rfl) ?_
 try refine Qa ?_
 refine Jn (m:=r*n) (n:=r*n) sym rfl rfl rfl rfl rfl rfl rfl rfl rfl (Nat.le_refl _) (by omega) (by omega) rfl rfl rfl rfl (fun bl=>?_)
 have hrow:=JE (e:=TR) (s:=4) (b:=bl) (n:=r*n) (z:=(.agg #[.bool false,.slice none 0 0,.bool false,.slice none 0 0])) rfl (by omega)
 repeat (first|refine Qc ?_|refine Qb fun _=>?_|refine w_al fun _=>?_)
 rename_i b8
 refine JY (M:=(b8,.var (.agg #[.int .i64 (r:Int),.int .i64 (n:Int),.slice (some ⟨bl,0,none⟩) (r*n) (r*n)]),TM)::(bl,.arr (List.replicate (r*n) (.agg #[.bool false,.slice none 0 0,.bool false,.slice none 0 0])),TR)::(b6,.var (.agg #[.int .i64 0,.int .i64 0,.slice none 0 0]),TM)::(b4,.var (.agg #[.int .i64 (r:Int),.int .i64 (n:Int),.slice pb (r*n) ccb]),TM)::(b3,.var (.agg #[.int .i64 (r:Int),.int .i64 (n:Int),.slice pa (r*n) cca]),TM)::M) (M':=(b8,.var (.agg #[.int .i64 (r:Int),.int .i64 (n:Int),.slice (some ⟨bl,0,none⟩) (r*n) (r*n)]),TM)::(b6,.var (.agg #[.int .i64 0,.int .i64 0,.slice none 0 0]),TM)::(b4,.var (.agg #[.int .i64 (r:Int),.int .i64 (n:Int),.slice pb (r*n) ccb]),TM)::(b3,.var (.agg #[.int .i64 (r:Int),.int .i64 (n:Int),.slice pa (r*n) cca]),TM)::([(bl,.arr (List.replicate (r*n) (.agg #[.bool false,.slice none 0 0,.bool false,.slice none 0 0])),TR)]++M)) pm ?_
 refine Qm (fun z E U' M'=>∃ (i:Nat) (us:List Value) (D:MH),i≤r*n∧RowO TR 4 D (some ⟨bl,0,none⟩) (r*n) (r*n) us∧ElTo Vq U' i us (fl n fun i j=>op (A i j) (B i j))∧E=[(45,.int .i64 (i:Int)),(44,.int .i64 ((r*n:Nat):Int)),(2,.func (.func c) #[] cs.toArray),(3,.pointer (some ⟨b3,0,none⟩)),(4,.pointer (some ⟨b4,0,none⟩)),(6,.pointer (some ⟨b6,0,none⟩)),(8,.pointer (some ⟨b8,0,none⟩))]∧ULe U U'∧M'=(b8,.var (.agg #[.int .i64 (r:Int),.int .i64 (n:Int),.slice (some ⟨bl,0,none⟩) (r*n) (r*n)]),TM)::(b6,.var (.agg #[.int .i64 0,.int .i64 0,.slice none 0 0]),TM)::(b4,.var (.agg #[.int .i64 (r:Int),.int .i64 (n:Int),.slice pb (r*n) ccb]),TM)::(b3,.var (.agg #[.int .i64 (r:Int),.int .i64 (n:Int),.slice pa (r*n) cca]),TM)::(D++M)∧z=r*n - i) (n0:=r*n)
  (E0:=[(45,.int .i64 ((0:Nat):Int)),(44,.int .i64 ((r*n:Nat):Int)),(2,.func (.func c) #[] cs.toArray),(3,.pointer (some ⟨b3,0,none⟩)),(4,.pointer (some ⟨b4,0,none⟩)),(6,.pointer (some ⟨b6,0,none⟩)),(8,.pointer (some ⟨b8,0,none⟩))]) ⟨rfl,rfl,rfl,rfl,rfl,rfl,rfl,trivial⟩ ⟨0,_,_,by omega,hrow,(fun k x hk=>absurd hk (Nat.not_lt_zero k)),rfl,uc,rfl,rfl⟩ ?_
 clear hrow
 rintro z E U1 M' ⟨i,us,D,hi,hrow,hel,rfl,hU1,rfl,rfl⟩
 try refine Qa ?_
 refine Qk rfl (fun h=>?_) (fun h=>?_)
 ·have hin:i < r*n:=by omega
  obtain ⟨v1,hv1⟩:=ra.at hin
  obtain ⟨x1,rfl,hx1,hl1⟩:=ea _ _ hv1
  obtain ⟨v2,hv2⟩:=rb.at hin
  obtain ⟨x2,rfl,hx2,hl2⟩:=eb _ _ hv2
  try refine Qa ?_
  refine QH [15,16] [0,1,2,3,4,5,6,7,8,9,10,11,12,13,14,15,16] sym (by kernel_rfl) ?_
  try refine Qa ?_
  refine sl_y (Qj sym rfl rfl rfl rfl rfl rfl ((ra.up uc sb).lt hv1) ((ra.up uc sb).get _ _ hv1).1) rfl rfl rfl rfl ?_; refine sl_y (Qu sym rfl rfl rfl rfl rfl (ra.up uc sb) hv1) rfl rfl rfl rfl ?_
  try refine Qa ?_
  refine sl_y (Qj sym rfl rfl rfl rfl rfl rfl ((rb.up uc sb).lt hv2) ((rb.up uc sb).get _ _ hv2).1) rfl rfl rfl rfl ?_; refine sl_y (Qu sym rfl rfl rfl rfl rfl (rb.up uc sb) hv2) rfl rfl rfl rfl ?_
  try refine Qa ?_
  refine QcS rfl rfl rfl rfl rfl rfl rfl (fun M2=>(hdo _ _ x1 x2 _ _ uc sb (hx1.up uc sb) hl1 (hx2.up uc sb) hl2).settle) ?_
  rintro v3 U3 D3 hU3 ⟨rfl,_,_,⟨x3,rfl,h3,-⟩,-,-,hs⟩
  replace h3:=h3.sett hs
  clear hs
  rw [List.nil_append]
  try refine Qa ?_
  refine QF (j:=i) hin rfl ?_
  refine QZ (v:=x3.v) (X:=(b8,.var (.agg #[.int .i64 (r:Int),.int .i64 (n:Int),.slice (some ⟨bl,0,none⟩) (r*n) (r*n)]),TM)::(b6,.var (.agg #[.int .i64 0,.int .i64 0,.slice none 0 0]),TM)::(b4,.var (.agg #[.int .i64 (r:Int),.int .i64 (n:Int),.slice pb (r*n) ccb]),TM)::(b3,.var (.agg #[.int .i64 (r:Int),.int .i64 (n:Int),.slice pa (r*n) cca]),TM)::M) hrow pm hin (fun D4 hr4=>?_)
  refine Qg (M':=(b8,.var (.agg #[.int .i64 (r:Int),.int .i64 (n:Int),.slice (some ⟨bl,0,none⟩) (r*n) (r*n)]),TM)::(b6,.var (.agg #[.int .i64 0,.int .i64 0,.slice none 0 0]),TM)::(b4,.var (.agg #[.int .i64 (r:Int),.int .i64 (n:Int),.slice pb (r*n) ccb]),TM)::(b3,.var (.agg #[.int .i64 (r:Int),.int .i64 (n:Int),.slice pa (r*n) cca]),TM)::(D4++M)) ?_ pm
  try refine Qa ?_
  exact Qi (E':=[(45,.int .i64 ((i:Int)+1)),(44,.int .i64 ((r*n:Nat):Int)),(2,.func (.func c) #[] cs.toArray),(3,.pointer (some ⟨b3,0,none⟩)),(4,.pointer (some ⟨b4,0,none⟩)),(6,.pointer (some ⟨b6,0,none⟩)),(8,.pointer (some ⟨b8,0,none⟩))]) (m:=r*n - (i+1)) ⟨rfl,rfl,rfl,rfl,rfl,rfl,rfl,trivial⟩ (by omega)
   ⟨i+1,_,D4,by omega,hr4,(hel.up QA uc).next ⟨x3,rfl,h3⟩,rfl,uc,rfl,rfl⟩
 ·have e:i=r*n:=by omega
  subst e
  repeat (first|refine Qc ?_|refine Qb fun _=>?_|refine w_al fun _=>?_)
  exact Qe D sym rfl (.cons (.cell 1 rfl rfl rfl) (.cons (.tmp rfl) .nil)) uc sb (.inl rfl) ⟨_,rfl,⟨_,rfl,_,_,us,rfl,hrow,hel.all hrow.len.1⟩,uc⟩
theorem Qdu {r n b:Nat} {va vb:Value} {A B:Nat→Nat→Rat} (ha:Vx M b r n U va A) (hv:Vx M b r n U vb B) (hb:b≤10000000000) (hr:r≤1000) (hn:n≤1000) :
  Ct Try.prog 7 [va,vb] G U M fun v U' D=>∃ vC,v = .tuple #[vC,.int .i64 0]∧Vmo r n U' D vC (fun i j=>A i j+B i j)∧ULe U U':=by
 obtain ⟨_,rfl,pa,cca,as1,rfl,ra⟩:=id ha
 obtain ⟨_,rfl,pb,ccb,bs1,rfl,rb⟩:=id hv
 refine Qf Try.func7 rfl rfl rfl rfl ?_
 repeat (first|refine Qc ?_|refine Qb fun _=>?_|refine w_al fun _=>?_)
 refine Qd rfl rfl rfl rfl rfl rfl (fun _=>Qce (cs:=[]) (op:=fun p q=>p+q) (ha.upx uc sb) (hv.upx uc sb) (fun U' M' x y p q _ _ hx hxl hy hyl=>QaO hx (by omega) hy (by omega)) hr hn) ?_
 rintro v1 U1 D1 hU1 ⟨_,rfl,⟨_,rfl,p1,c1,s1,rfl,h1⟩,-⟩
 refine Qg ?_ (perm3 (D:=D1))
 repeat (first|refine Qc ?_|refine Qb fun _=>?_|refine w_al fun _=>?_)
 exact Qe D1 sym rfl (.cons (.cell 0 rfl rfl rfl) (.cons (.tmp rfl) .nil)) uc sb (.inl rfl) ⟨_,rfl,⟨_,rfl,p1,c1,s1,rfl,h1⟩,uc⟩
theorem Qdz {r k c b:Nat} {va vb:Value} {A B:Nat→Nat→Rat} (ha:Vx M b r k U va A) (hv:Vx M b k c U vb B) (hb1:1≤b) (hB:1+k*(2*b+2)+b≤10000000000) (hr:r≤1000) (hk:k≤1000) (hc:c≤1000) :
  Ct Try.prog 8 [va,vb] G U M fun v U' D=>∃ vC,v = .tuple #[vC,.int .i64 0]∧Vmo r c U' D vC (La.mm k A B)∧ULe U U':=by
 have h1:r*k≤1000*1000:=Nat.mul_le_mul hr hk
 have h2:k*c≤1000*1000:=Nat.mul_le_mul hk hc
 have h3:r*c≤1000*1000:=Nat.mul_le_mul hr hc
 have sA:∀ i j,i < r→j < k→Szq (A i j) b:=fun i j hi hj=>ha.sz hb1 hi hj
 have sB:∀ i j,i < k→j < c→Szq (B i j) b:=fun i j hi hj=>hv.sz hb1 hi hj
 have ha2:=ha
 have hv2:=hv
 obtain ⟨_,rfl,pa,cca,asa,rfl,-⟩:=ha
 obtain ⟨_,rfl,pb,ccb,bs,rfl,-⟩:=hv
 refine Qf Try.func8 rfl rfl rfl rfl ?_
 repeat (first|refine Qc ?_|refine Qb fun _=>?_|refine w_al fun _=>?_)
 rename_i b2 b3 b4
 refine Qd rfl rfl rfl rfl rfl rfl (fun _=>QI (r:=(r:Int)) (c:=(k:Int)) (n:=r*k) (p:=pa) (cc:=cca) (by omega)) ?_
 rintro v U' D hU ⟨rfl,rfl,rfl⟩
 repeat (first|refine Qc ?_|refine Qb fun _=>?_|refine w_al fun _=>?_)
 rw [decide_eq_true (Yd (by omega) (by omega))]
 repeat (first|refine Qc ?_|refine Qb fun _=>?_|refine w_al fun _=>?_)
 refine Qd rfl rfl rfl rfl rfl rfl (fun _=>QI (r:=(k:Int)) (c:=(c:Int)) (n:=k*c) (p:=pb) (cc:=ccb) (by omega)) ?_
 rintro v U' D hU ⟨rfl,rfl,rfl⟩
 repeat (first|refine Qc ?_|refine Qb fun _=>?_|refine w_al fun _=>?_)
 rw [decide_eq_true (Yd (by omega) (by omega))]
 repeat (first|refine Qc ?_|refine Qb fun _=>?_|refine w_al fun _=>?_)
 refine JU rfl (fun h=>absurd rfl h) (fun _=>?_)
 repeat (first|refine Qc ?_|refine Qb fun _=>?_|refine w_al fun _=>?_)
 refine Qq [0,2,1,3,4,5] sym (by kernel_rfl) ?_
 try refine Qa ?_
 refine Qd rfl rfl rfl rfl rfl rfl (fun _=>Yx (ha2.upx uc sb) (by omega) (by omega) (by omega) (by omega)) ?_
 rintro v1 U1 D1 hU1 ⟨⟨Do,F,px,cx,svs,rfl,rfl,hro,hgs⟩,-⟩
 try refine Qa ?_
 refine Qd rfl rfl rfl rfl rfl rfl (fun _=>Yx (hv2.upx uc sb) (by omega) (by omega) (by omega) (by omega)) ?_
 rintro v2 U2 D2 hU2 ⟨hgy,-⟩
 have hy0:=hgy
 obtain ⟨Dy,Fy,py,cy,yvs,rfl,rfl,-,-⟩:=hy0
 try refine Qa ?_
 refine JY (M':=(F.flatten++(Dy++Fy.flatten))++((b4,.var (.agg #[.int .i64 0,.int .i64 0,.slice none 0 0]),TM)::(b3,.var (.agg #[.int .i64 (k:Int),.int .i64 (c:Int),.slice pb (k*c) ccb]),TM)::(b2,.var (.agg #[.int .i64 (r:Int),.int .i64 (k:Int),.slice pa (r*k) cca]),TM)::(Do++M))) pm ?_
 refine yT fun U3 hU3 hs3=>?_
 have eX:=hgs.sett (U0:=U2) (U':=U3) uc hs3.left
 have hyg:Lg k c U3 [] (.slice py k cy) B:=Lg.of_s (hgy.sett hU3 hs3.right)
 have hpx:=hro.len
 refine Qm (fun z E U' M'=>∃ (i:Nat) (svs:List Value) (Do:MH),i≤r∧RowO TRs 1 Do px r cx svs∧(∀ j v,j < i→svs[j]?=some v→Vr c U' v (La.mm k A B j))∧(∀ j v,i≤j→svs[j]?=some v→Vr k U' v (A j))∧E=[(31,.int .i64 (i:Int)),(30,.int .i64 (r:Int)),(6,.slice px r cx),(7,.slice py k cy),(3,.pointer (some ⟨b3,0,none⟩)),(4,.pointer (some ⟨b4,0,none⟩))]∧ULe U3 U' ∧
   M'=(b4,.var (.agg #[.int .i64 0,.int .i64 0,.slice none 0 0]),TM)::(b3,.var (.agg #[.int .i64 (k:Int),.int .i64 (c:Int),.slice pb (k*c) ccb]),TM)::(b2,.var (.agg #[.int .i64 (r:Int),.int .i64 (k:Int),.slice pa (r*k) cca]),TM)::(Do++M)∧z=r - i) (n0:=r)
  (E0:=[(31,.int .i64 ((0:Nat):Int)),(30,.int .i64 (r:Int)),(6,.slice px r cx),(7,.slice py k cy),(3,.pointer (some ⟨b3,0,none⟩)),(4,.pointer (some ⟨b4,0,none⟩))]) ⟨rfl,rfl,rfl,rfl,rfl,rfl,trivial⟩ ⟨0,svs,Do,by omega,hro,(fun j v h=>absurd h (Nat.not_lt_zero j)),(fun j v _ hv=>eX j v hv),rfl,uc,rfl,rfl⟩ ?_
 clear hro hgs eX hgy
 rintro z E U4 M' ⟨i,svs,Do,hi,hro,hN,hO,rfl,hU4,rfl,rfl⟩
 have hsl:=hro.len.1
 try refine Qa ?_
 refine Qk rfl (fun h=>?_) (fun h=>?_)
 ·have hir:i < r:=by omega
  have rA:=hro.at (U:=U4) (M:=(b4,.var (.agg #[.int .i64 0,.int .i64 0,.slice none 0 0]),TM)::(b3,.var (.agg #[.int .i64 (k:Int),.int .i64 (c:Int),.slice pb (k*c) ccb]),TM)::(b2,.var (.agg #[.int .i64 (r:Int),.int .i64 (k:Int),.slice pa (r*k) cca]),TM)::(Do++M)) sb
  obtain ⟨v5,hv5⟩:=rA.at hir
  have h5:=hO i v5 (Nat.le_refl i) hv5
  obtain ⟨p5,c5,us,rfl,-⟩:=id h5
  try refine Qa ?_
  refine QH [9,10,11] [0,1,2,3,4,5,6,7,8,9,10,11] sym (by kernel_rfl) ?_
  try refine Qa ?_
  refine sl_y (Qj sym rfl rfl rfl rfl rfl rfl (rA.lt hv5) (rA.get _ _ hv5).1) rfl rfl rfl rfl ?_; refine sl_y (Qp sym rfl rfl rfl rfl rA hv5 rfl) rfl rfl rfl rfl ?_
  try refine Qa ?_
  refine Qd rfl rfl rfl rfl rfl rfl (fun _=>QbJ (b:=b) ((h5.ls uc).toW fun j hj=>sA i j hir hj) (hyg.up uc (List.nil_sublist _)) sB hb1 hB (by omega) (by omega)) ?_
  rintro v6 U6 D hU6 ⟨h6,rfl⟩
  rw [List.nil_append]
  obtain ⟨p6,c6,ws,rfl,-⟩:=id h6
  try refine Qa ?_
  refine QF (j:=i) hir (hro.some (by omega)) ?_
  refine QZ (X:=(b4,.var (.agg #[.int .i64 0,.int .i64 0,.slice none 0 0]),TM)::(b3,.var (.agg #[.int .i64 (k:Int),.int .i64 (c:Int),.slice pb (k*c) ccb]),TM)::(b2,.var (.agg #[.int .i64 (r:Int),.int .i64 (k:Int),.slice pa (r*k) cca]),TM)::M) hro pm hir (fun D7 hr7=>?_)
  refine Qg (M':=(b4,.var (.agg #[.int .i64 0,.int .i64 0,.slice none 0 0]),TM)::(b3,.var (.agg #[.int .i64 (k:Int),.int .i64 (c:Int),.slice pb (k*c) ccb]),TM)::(b2,.var (.agg #[.int .i64 (r:Int),.int .i64 (k:Int),.slice pa (r*k) cca]),TM)::(D7++M)) ?_ pm
  try refine Qa ?_
  refine Qi (E':=[(31,.int .i64 ((i:Int)+1)),(30,.int .i64 (r:Int)),(6,.slice px r cx),(7,.slice py k cy),(3,.pointer (some ⟨b3,0,none⟩)),(4,.pointer (some ⟨b4,0,none⟩))]) (m:=r - (i+1)) ⟨rfl,rfl,rfl,rfl,rfl,rfl,trivial⟩ (by omega)
   ⟨i+1,_,D7,by omega,hr7,(fun j v hj hv=>?_),(fun j v hj hv=>?_),rfl,uc,rfl,rfl⟩
  ·by_cases ej:j=i
   ·subst ej
    rw [List.getElem?_set_self (by omega)] at hv
    cases hv
    exact h6
   ·rw [List.getElem?_set_ne (Ne.symm ej)] at hv
    exact Qcy _ _ _ _ uc (hN j v (by omega) hv)
  ·rw [List.getElem?_set_ne (by omega)] at hv
   exact Qcy _ _ _ _ uc (hO j v (by omega) hv)
 ·have e:i=r:=by omega
  subst e
  have hgl:Lg i c U4 Do (.slice px i cx) (La.mm k A B):=⟨px,cx,svs,rfl,hpx.2.1,hro.at (List.Sublist.refl _),fun j v hj=>(hN j v (by rw [← hsl]; exact (List.getElem?_eq_some_iff.1 hj).1) hj).ls (ULe.refl _)⟩
  try refine Qa ?_
  refine Qd rfl rfl rfl rfl rfl rfl (fun _=>JJ (hgl.up (M':=_) uc sb) (by omega) (by omega) (by omega)) ?_
  rintro v6 U6 D6 hU6 ⟨⟨_,rfl,p6,c6,vs6,rfl,h6,e6⟩,-⟩
  refine Qg ?_ (perm3 (D:=D6))
  repeat (first|refine Qc ?_|refine Qb fun _=>?_|refine w_al fun _=>?_)
  exact Qe D6 sym rfl (.cons (.cell 0 rfl rfl rfl) (.cons (.tmp rfl) .nil)) uc sb (.inl rfl) ⟨_,rfl,⟨_,rfl,p6,c6,vs6,rfl,h6,e6⟩,uc⟩
theorem QaJ {r k c b:Nat} {va vb:Value} {A B:Nat→Nat→Rat} (ha:Vx M b r k U va A) (hv:Vx M b k c U vb B) (hb1:1≤b) (hB:1+k*(2*b+2)+b≤10000000000) (hr:r≤1000) (hk:k≤1000) (hc:c≤1000) :
  Ct Try.prog 8 [va,vb] G U M fun v U' D=>∃ vC,v = .tuple #[vC,.int .i64 0]∧Vm Vq r c U' vC (La.mm k A B)∧D=[] :=
 (Qdz ha hv hb1 hB hr hk hc).settle.mono fun _ _ _ _ ⟨h1,_,_,⟨vC,h2,⟨a,h3,h9⟩,_⟩,_,h7,h8⟩ =>
  ⟨vC,h2,⟨a,h3,h9.sett QA h7 h8⟩,h1⟩
theorem jH {r c b:Nat} {va:Value} {A:Nat→Nat→Rat} (ha:Vx M b r c U va A) (hb:b≤10000000000) (hr:r≤1000) (hc:c≤1000) :
  Ct Try.prog 9 [va] G U M fun v U' D=>∃ vC,v = .tuple #[vC,.int .i64 0]∧Vmo c r U' D vC (La.tr A)∧ULe U U':=by
 have hrc:r*c≤1000*1000:=Nat.mul_le_mul hr hc
 have hcr:c*r≤1000*1000:=Nat.mul_le_mul hc hr
 have ha2:=ha
 obtain ⟨_,rfl,pa,cca,as1,rfl,-⟩:=ha
 refine Qf Try.func9 rfl rfl rfl rfl ?_
 repeat (first|refine Qc ?_|refine Qb fun _=>?_|refine w_al fun _=>?_)
 rename_i b1 b2
 refine Qd rfl rfl rfl rfl rfl rfl (fun _=>QI (r:=(r:Int)) (c:=(c:Int)) (n:=r*c) (p:=pa) (cc:=cca) (by omega)) ?_
 rintro v U' D hU ⟨rfl,rfl,rfl⟩
 repeat (first|refine Qc ?_|refine Qb fun _=>?_|refine w_al fun _=>?_)
 rw [decide_eq_true (Yd (by omega) (by omega))]
 repeat (first|refine Qc ?_|refine Qb fun _=>?_|refine w_al fun _=>?_)
 refine Qd rfl rfl rfl rfl rfl rfl (fun _=>jL (r:=c) (c:=r) (by omega) (by omega)) ?_
 rintro v1 U1 D1 hU1 ⟨⟨Do,F,pg,cg,svs,rfl,rfl,hro,hg⟩,-⟩
 have hsl:=hro.len.1
 refine Qg (M':=(b2,.var (.agg #[.int .i64 0,.int .i64 0,.slice none 0 0]),TM)::(b1,.var (.agg #[.int .i64 (r:Int),.int .i64 (c:Int),.slice pa (r*c) cca]),TM)::(Do++(F.flatten++M))) ?_ pm
 try refine Qa ?_
 refine Qd rfl rfl rfl rfl rfl rfl (fun _=>Qcc (ha2.upx uc sb) (by omega) (by omega) (by omega) (by omega)) ?_
 rintro v2 U2 D2 hU2 ⟨hl,rfl⟩
 rw [List.nil_append]
 obtain ⟨pl,cl,ls,rfl,hcl,rl,el⟩:=hl
 try refine Qa ?_
 refine Qm (fun z E U' M'=>∃ (i:Nat) (F:List MH),i≤r∧Gs rO r U' svs F (fun a k=>if k < i then A k a else 0)∧E=[(21,.int .i64 (i:Int)),(20,.int .i64 (r:Int)),(19,.slice pl r cl),(4,.slice pg c cg),(1,.pointer (some ⟨b1,0,none⟩)),(2,.pointer (some ⟨b2,0,none⟩))]∧ULe U2 U' ∧
   M'=(b2,.var (.agg #[.int .i64 0,.int .i64 0,.slice none 0 0]),TM)::(b1,.var (.agg #[.int .i64 (r:Int),.int .i64 (c:Int),.slice pa (r*c) cca]),TM)::(Do++(F.flatten++M))∧z=r - i) (n0:=r)
  (E0:=[(21,.int .i64 ((0:Nat):Int)),(20,.int .i64 (r:Int)),(19,.slice pl r cl),(4,.slice pg c cg),(1,.pointer (some ⟨b1,0,none⟩)),(2,.pointer (some ⟨b2,0,none⟩))]) ⟨rfl,rfl,rfl,rfl,rfl,rfl,trivial⟩ ⟨0,F,by omega,by simpa using hg.up (U':=U2) uc,rfl,uc,rfl,rfl⟩ ?_
 clear hg
 rintro z E U3 M' ⟨i,F,hi,hg,rfl,hU3,rfl,rfl⟩
 try refine Qa ?_
 refine Qk rfl (fun h=>?_) (fun h=>?_)
 ·have hir:i < r:=by omega
  obtain ⟨v1,hv1⟩:=rl.at hir
  obtain ⟨q1,d1,us,rfl,hd1,ru,eu⟩:=el _ _ hv1
  try refine Qa ?_
  refine sl_y (Qj sym rfl rfl rfl rfl rfl rfl ((rl.up uc sb).lt hv1) ((rl.up uc sb).get _ _ hv1).1) rfl rfl rfl rfl ?_; refine sl_y (Qp sym rfl rfl rfl rfl (rl.up uc sb) hv1 rfl) rfl rfl rfl rfl ?_
  try refine Qa ?_
  refine Qm (fun z E U' M'=>∃ (j:Nat) (F:List MH),j≤c∧Gs rO r U' svs F (fun a k=>if k < i∨(k=i∧a < j) then A k a else 0)∧E=[(28,.int .i64 (j:Int)),(27,.int .i64 (c:Int)),(26,.slice q1 c d1),(5,.int .i64 (i:Int)),(21,.int .i64 (i:Int)),(20,.int .i64 (r:Int)),(19,.slice pl r cl),(4,.slice pg c cg),(1,.pointer (some ⟨b1,0,none⟩)),(2,.pointer (some ⟨b2,0,none⟩))]∧ULe U3 U' ∧
    M'=(b2,.var (.agg #[.int .i64 0,.int .i64 0,.slice none 0 0]),TM)::(b1,.var (.agg #[.int .i64 (r:Int),.int .i64 (c:Int),.slice pa (r*c) cca]),TM)::(Do++(F.flatten++M))∧z=c - j) (n0:=c)
   (E0:=[(28,.int .i64 ((0:Nat):Int)),(27,.int .i64 (c:Int)),(26,.slice q1 c d1),(5,.int .i64 (i:Int)),(21,.int .i64 (i:Int)),(20,.int .i64 (r:Int)),(19,.slice pl r cl),(4,.slice pg c cg),(1,.pointer (some ⟨b1,0,none⟩)),(2,.pointer (some ⟨b2,0,none⟩))]) ⟨rfl,rfl,rfl,rfl,rfl,rfl,rfl,rfl,rfl,rfl,trivial⟩ ⟨0,F,by omega,by simpa using hg,rfl,uc,rfl,rfl⟩ ?_
  clear hg
  rintro z E U4 M' ⟨j,F,hj,hg,rfl,hU4,rfl,rfl⟩
  try refine Qa ?_
  refine Qk rfl (fun h2=>?_) (fun h2=>?_)
  ·have hjc:j < c:=by omega
   obtain ⟨v2,hv2⟩:=ru.at hjc
   obtain ⟨x1,rfl,hx1⟩:=eu _ _ hv2
   obtain ⟨q,c',vs,Dj,hvj,hFj,hcc,hR,hel,hjF,hput⟩:=hg.put (i:=j) (by omega)
   try refine Qa ?_
   refine sl_y (Qj sym rfl rfl rfl rfl rfl rfl ((ru.up uc sb).lt hv2) ((ru.up uc sb).get _ _ hv2).1) rfl rfl rfl rfl ?_; refine sl_y (Qu sym rfl rfl rfl rfl rfl (ru.up uc sb) hv2) rfl rfl rfl rfl ?_
   repeat (first|refine Qc ?_|refine Qb fun _=>?_|refine w_al fun _=>?_)
   rename_i b8
   refine QH [6,7] [0,1,2,3,4,5,6,7] sym (by kernel_rfl) ?_
   try refine Qa ?_
   have rA:=hro.at (U:=U4) (M:=(b8,.var x1.v,TR)::(b2,.var (.agg #[.int .i64 0,.int .i64 0,.slice none 0 0]),TM)::(b1,.var (.agg #[.int .i64 (r:Int),.int .i64 (c:Int),.slice pa (r*c) cca]),TM)::(Do++(F.flatten++M))) sb
   refine sl_y (Qj sym rfl rfl rfl rfl rfl rfl (rA.lt hvj) (rA.get _ _ hvj).1) rfl rfl rfl rfl ?_; refine sl_y (Qp sym rfl rfl rfl rfl rA hvj rfl) rfl rfl rfl rfl ?_
   try refine Qa ?_
   refine QF (j:=i) hir (hR.some (by omega)) ?_
   refine QZ (v:=x1.v) (X:=(b8,.var x1.v,TR)::(b2,.var (.agg #[.int .i64 0,.int .i64 0,.slice none 0 0]),TM)::(b1,.var (.agg #[.int .i64 (r:Int),.int .i64 (c:Int),.slice pa (r*c) cca]),TM)::(Do++(((F.take j).flatten++(F.drop (j+1)).flatten)++M))) hR (JF (B:=(b8,.var x1.v,TR)::(b2,.var (.agg #[.int .i64 0,.int .i64 0,.slice none 0 0]),TM)::(b1,.var (.agg #[.int .i64 (r:Int),.int .i64 (c:Int),.slice pa (r*c) cca]),TM)::Do) (pickF hFj)) hir (fun D4 hr4=>?_)
   refine Qg ?_ (JF (B:=(b8,.var x1.v,TR)::(b2,.var (.agg #[.int .i64 0,.int .i64 0,.slice none 0 0]),TM)::(b1,.var (.agg #[.int .i64 (r:Int),.int .i64 (c:Int),.slice pa (r*c) cca]),TM)::Do) (putF hjF)).symm
   refine yz (M':=(b2,.var (.agg #[.int .i64 0,.int .i64 0,.slice none 0 0]),TM)::(b1,.var (.agg #[.int .i64 (r:Int),.int .i64 (c:Int),.slice pa (r*c) cca]),TM)::(Do++((F.set j D4).flatten++M))) ?_ (List.sublist_cons_self ..)
   try refine Qa ?_
   exact Qi (E':=[(28,.int .i64 ((j:Int)+1)),(27,.int .i64 (c:Int)),(26,.slice q1 c d1),(5,.int .i64 (i:Int)),(21,.int .i64 (i:Int)),(20,.int .i64 (r:Int)),(19,.slice pl r cl),(4,.slice pg c cg),(1,.pointer (some ⟨b1,0,none⟩)),(2,.pointer (some ⟨b2,0,none⟩))]) (m:=c - (j+1)) ⟨rfl,rfl,rfl,rfl,rfl,rfl,rfl,rfl,rfl,rfl,trivial⟩ (by omega)
    ⟨j+1,F.set j D4,by omega,hput U4 D4 _ _ (ULe.refl _) hr4 (yg (fun k x hk hne=>by
     have:Vq U4 x (if k < i∨(k=i∧j < j) then A k j else 0):=hel k x hk
     by_cases e:k < i
     ·rw [if_pos (.inl e)] at this; rw [if_pos (.inl e)]; exact this
     ·rw [if_neg (by omega)] at this; rw [if_neg (by omega)]; exact this) (by
     rw [if_pos (by omega)]
     exact ⟨x1,rfl,hx1.up uc sb⟩)) (fun k hk=>by
     funext a
     by_cases e:a < i∨(a=i∧k < j)
     ·rw [if_pos e,if_pos (by omega)]
     ·rw [if_neg e,if_neg (by omega)]),rfl,uc,rfl,rfl⟩
  ·have e:j=c:=by omega
   subst e
   try refine Qa ?_
   exact Qi (E':=[(21,.int .i64 ((i:Int)+1)),(20,.int .i64 (r:Int)),(19,.slice pl r cl),(4,.slice pg j cg),(1,.pointer (some ⟨b1,0,none⟩)),(2,.pointer (some ⟨b2,0,none⟩))]) (m:=r - (i+1)) ⟨rfl,rfl,rfl,rfl,rfl,rfl,trivial⟩ (by omega)
    ⟨i+1,F,by omega,hg.congr (n:=j) hsl (fun _ _ _ _ h=>h.len.1) (fun a k ha _=>by
     by_cases e:k < i+1
     ·rw [if_pos e,if_pos (by omega)]
     ·rw [if_neg e,if_neg (by omega)]),rfl,uc,rfl,rfl⟩
 ·have e:i=r:=by omega
  subst e
  repeat (first|refine Qc ?_|refine Qb fun _=>?_|refine w_al fun _=>?_)
  have hgl:=Gs.lg (U:=U3) (M:=(b2,.var (.agg #[.int .i64 0,.int .i64 0,.slice none 0 0]),TM)::(b1,.var (.agg #[.int .i64 (i:Int),.int .i64 (c:Int),.slice pa (i*c) cca]),TM)::(Do++(F.flatten++M))) hro hg.w sb
  refine Qd rfl rfl rfl rfl rfl rfl (fun _=>JJ (hgl.up uc sb) (by omega) (by omega) (by omega)) ?_
  rintro v6 U6 D6 hU6 ⟨⟨_,rfl,p6,c6,vs6,rfl,h6,e6⟩,-⟩
  refine Qg ?_ (perm2 (D:=D6))
  repeat (first|refine Qc ?_|refine Qb fun _=>?_|refine w_al fun _=>?_)
  exact Qe D6 sym rfl (.cons (.cell 0 rfl rfl rfl) (.cons (.tmp rfl) .nil)) uc sb (.inl rfl) ⟨_,rfl,⟨_,rfl,p6,c6,vs6,rfl,h6,e6.congr h6.len.1 fun k hk=>by
   have hmod:k % i < i:=Nat.mod_lt _ (by
    rcases Nat.eq_zero_or_pos i with h0 | h0
    ·subst h0; simp at hk
    ·exact h0)
   show (if k % i < i then A (k % i) (k / i) else 0)=A (k % i) (k / i)
   rw [if_pos hmod]⟩,uc⟩
end Go.Proofs.Ytahcddpdgpjbnaa
