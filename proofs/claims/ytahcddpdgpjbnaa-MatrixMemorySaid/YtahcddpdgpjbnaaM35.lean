/- Texts of this seat's own, merged: each begins with its own remark. -/
import Derived.Test.YtahcddpdgpjbnaaM23
import Derived.Test.YtahcddpdgpjbnaaM17
/- Walks of the statements' helpers: rows of integers, comparisons of rows and matrices. -/
namespace Go.Proofs.Ytahcddpdgpjbnaa
open Go.Hp
variable {G:World} {U U':UH} {M M':MH}
def Vz (_:UH) (v:Value) (z:Int):Prop:=v = .int .i64 z ∧ -9223372036854775808≤z∧z≤9223372036854775807
def Lz (r c:Nat) (U:UH) (M:MH) (v:Value) (Z:Nat→Nat→Int):Prop:=Ls (fun U v g=>Ls Vz 1 c U M v g) 1 r U M v Z
theorem QeA:Kept Vz:=fun _ _ _ _ _ h=>h
theorem Qec {n:Nat} {vl:Value} {z:Nat→Int} (hl:Ls Vz 1 n U M vl z) (hn:n≤1000000) :
  Ct Try.prog 38 [vl] G U M fun v U' D=>Lo Vq TR 4 n U' D v (fun i=>((z i:Int):Rat))∧ULe U U':=by
 obtain ⟨p1,c1,as1,rfl,-,ra,ea⟩:=hl
 refine Qf Try.func38 rfl rfl rfl rfl ?_
 repeat (first|refine Qc ?_|refine Qb fun _=>?_|refine w_al fun _=>?_)
 refine Qm (fun m E U' M'=>∃ (i:Nat) (p:Option Addr) (c:Nat) (vs:List Value) (D:MH),i≤n∧RowO TR 4 D p i c vs∧El Vq U' vs (fun i=>((z i:Int):Rat))∧E=[(3,.slice p i c),(4,.int .i64 (i:Int)),(0,.slice p1 n c1)]∧ULe U U'∧M'=D++M∧m=n - i) (n0:=n)
  (E0:=[(3,.slice none 0 0),(4,.int .i64 ((0:Nat):Int)),(0,.slice p1 n c1)]) ⟨rfl,rfl,rfl,trivial⟩ ⟨0,none,0,[],[],by omega,RowO.nil,El.nil,rfl,uc,rfl,rfl⟩ ?_
 rintro m E U' M' ⟨i,p,c,vs,D,hi,hrow,hel,rfl,hU,rfl,rfl⟩
 try refine Qa ?_
 refine Qk rfl (fun h=>?_) (fun h=>?_)
 ·have hin:i < n:=by omega
  obtain ⟨v1,hv1⟩:=ra.at hin
  obtain ⟨rfl,hz0,hz1⟩:=ea _ _ hv1
  try refine Qa ?_
  refine sl_y (Qj sym rfl rfl rfl rfl rfl rfl ((ra.up uc sb).lt hv1) ((ra.up uc sb).get _ _ hv1).1) rfl rfl rfl rfl ?_; refine sl_y (Qp sym rfl rfl rfl rfl (ra.up uc sb) hv1 rfl) rfl rfl rfl rfl ?_
  refine Qd rfl rfl rfl rfl rfl rfl (fun _=>(Qbj hz0 hz1).settle) ?_
  rintro v Uh1 D hU ⟨rfl,_,_,⟨xh1,rfl,h1,-⟩,-,-,hs⟩
  replace h1:=h1.sett hs
  clear hs
  repeat (first|refine Qc ?_|refine Qb fun _=>?_|refine w_al fun _=>?_)
  refine yw hrow (List.Perm.refl _) (fun bhr2 phr2 chr2 Dhr2 hr2=>?_)
  repeat (first|refine Qc ?_|refine Qb fun _=>?_|refine w_al fun _=>?_)
  exact Qi (E':=[(3,.slice phr2 (i+1) chr2),(4,.int .i64 ((i:Int)+1)),(0,.slice p1 n c1)]) (m:=n - (i+1)) ⟨rfl,rfl,rfl,trivial⟩ (by omega)
   ⟨i+1,phr2,chr2,_,Dhr2,by omega,hr2,yr hrow.len.1 (hel.up QA uc) ⟨xh1,rfl,h1⟩,rfl,uc,rfl,rfl⟩
 ·try refine Qa ?_
  have e:i=n:=by omega
  subst e
  exact Qe D sym rfl (.cons (.tmp rfl) .nil) uc sb (.inl rfl) ⟨⟨p,c,vs,rfl,hrow,hel⟩,uc⟩
theorem VR {r c:Nat} {vr:Value} {Z:Nat→Nat→Int} (hr:Lz r c U M vr Z) (hr1:1≤r) (hr2:r≤1000) (hc:c≤1000) :
  Ct Try.prog 16 [vr] G U M fun v U' D=>Vmo r c U' D v (fun i j=>((Z i j:Int):Rat))∧ULe U U':=by
 obtain ⟨p,cc,svs,rfl,-,rw1,el⟩:=hr
 have hrc:r*c≤1000*1000:=Nat.mul_le_mul hr2 hc
 refine Qf Try.func16 rfl rfl rfl rfl ?_
 repeat (first|refine Qc ?_|refine Qb fun _=>?_|refine w_al fun _=>?_)
 rename_i b4 b5
 refine Qm (fun z E U' M'=>∃ (i:Nat) (P:Option Addr) (C:Nat) (vs:List Value) (D:MH) (w:Int),i≤r∧(1≤i→w=(c:Int))∧RowO TR 4 D P (i*c) C vs∧El Vq U' vs (fl c fun i j=>((Z i j:Int):Rat))∧E=[(4,.int .i64 (i:Int)),(0,.slice p r cc),(2,.pointer (some ⟨b4,0,none⟩)),(3,.pointer (some ⟨b5,0,none⟩))]∧ULe U U' ∧
   M'=(b5,.var (.agg #[.int .i64 (r:Int),.int .i64 w,.slice P (i*c) C]),TM)::(b4,.var (.agg #[.int .i64 0,.int .i64 0,.slice none 0 0]),TM)::(D++M)∧z=r - i) (n0:=r)
  (E0:=[(4,.int .i64 ((0:Nat):Int)),(0,.slice p r cc),(2,.pointer (some ⟨b4,0,none⟩)),(3,.pointer (some ⟨b5,0,none⟩))]) ⟨rfl,rfl,rfl,rfl,trivial⟩ ⟨0,none,0,[],[],0,by omega,(fun h=>absurd h (by omega)),by rw [Nat.zero_mul]; exact RowO.nil,El.nil,rfl,uc,by rw [Nat.zero_mul]; rfl,rfl⟩ ?_
 rintro z E U1 M' ⟨i,P,C,vs,D,w,hi,hw,hrow,hel,rfl,hU1,rfl,rfl⟩
 try refine Qa ?_
 refine Qk rfl (fun h=>?_) (fun h=>?_)
 ·have hir:i < r:=by omega
  have hlt:i*c+c≤r*c:=by
   have:=Nat.mul_le_mul_right c (show i+1≤r by omega)
   rwa [Nat.add_mul,Nat.one_mul] at this
  obtain ⟨v1,hv1⟩:=rw1.at hir
  have e1:=el _ _ hv1
  obtain ⟨p2,c2,us,rfl,-⟩:=id e1
  try refine Qa ?_
  refine sl_y (Qj sym rfl rfl rfl rfl rfl rfl ((rw1.up uc sb).lt hv1) ((rw1.up uc sb).get _ _ hv1).1) rfl rfl rfl rfl ?_; refine sl_y (Qp sym rfl rfl rfl rfl (rw1.up uc sb) hv1 rfl) rfl rfl rfl rfl ?_
  try refine Qa ?_
  refine Vc 0 sym rfl rfl rfl rfl rfl rfl rfl rfl rfl rfl rfl ?_
  try refine Qa ?_
  refine QH [7,8,9] [0,1,2,3,4,5,6,7,8,9] sym (by kernel_rfl) ?_
  try refine Qa ?_
  refine sl_y (Qj sym rfl rfl rfl rfl rfl rfl ((rw1.up uc sb).lt hv1) ((rw1.up uc sb).get _ _ hv1).1) rfl rfl rfl rfl ?_; refine sl_y (Qp sym rfl rfl rfl rfl (rw1.up uc sb) hv1 rfl) rfl rfl rfl rfl ?_
  obtain ⟨q3,c3,us3,h3e,h3c,hr3,el3⟩:=id e1
  obtain ⟨rfl,-,rfl⟩:=Value.slice.inj h3e
  refine Qd rfl rfl rfl rfl rfl rfl (fun _=>(Qec (n:=c) (z:=Z i) (Ls.up (M':=_) e1 QeA uc sb) (by omega)).setl QA) ?_
  rintro v4 U4 D4 hU ⟨⟨p4,c4,us4,rfl,hc4,hr4,el4⟩,rfl⟩
  rw [List.nil_append]
  refine Qcp hrow (perm2 (D:=_)).symm (hr4.up uc sb) (El.ones el4 fun _ _ h=>Qbe h) (fun p5 c5 D5 hr5=>?_)
  refine Qg ?_ (perm2 (D:=D5))
  try refine Qa ?_
  refine Vc 0 sym rfl rfl rfl rfl rfl rfl rfl rfl rfl rfl rfl ?_
  try refine Qa ?_
  have e2:i*c+c=(i+1)*c:=by rw [Nat.add_mul,Nat.one_mul]
  rw [e2] at hr5 ⊢
  exact Qi (E':=[(4,.int .i64 ((i:Int)+1)),(0,.slice p r cc),(2,.pointer (some ⟨b4,0,none⟩)),(3,.pointer (some ⟨b5,0,none⟩))]) (m:=r - (i+1)) ⟨rfl,rfl,rfl,rfl,trivial⟩ (by omega)
   ⟨i+1,p5,c5,_,D5,c,by omega,(fun _=>rfl),hr5,Qao hrow.len.1 (hel.up QA uc) (fun k x hk=>by rw [qI (hr4.lt hk)]; exact el4 k x hk),rfl,uc,rfl,rfl⟩
 ·have e:i=r:=by omega
  subst e
  rw [hw hr1]
  repeat (first|refine Qc ?_|refine Qb fun _=>?_|refine w_al fun _=>?_)
  exact Qe D sym rfl (.cons (.cell 1 rfl rfl rfl) .nil) uc sb (.inl rfl) ⟨⟨_,rfl,P,C,vs,rfl,hrow,hel⟩,uc⟩
theorem YM {x y:QV} {p q:Rat} (hx:x.nrm U M p) (hy:y.nrm U M q) :
  Ct Try.prog 19 [x.v,y.v] G U M fun v U' D=>v = .bool (decide (p=q))∧U=U'∧D=[]:=by
 refine Qf Try.func19 rfl rfl rfl rfl ?_
 repeat (first|refine Qc ?_|refine Qb fun _=>?_|refine w_al fun _=>?_)
 refine Qd rfl rfl rfl rfl rfl rfl (fun _=>vd (hx.1.up uc sb) (hy.1.up uc sb)) ?_
 rintro v U' D hU ⟨rfl,rfl,rfl⟩
 repeat (first|refine Qc ?_|refine Qb fun _=>?_|refine w_al fun _=>?_)
 by_cases h:p.num=q.num
 ·rw [decide_eq_true h]
  repeat (first|refine Qc ?_|refine Qb fun _=>?_|refine w_al fun _=>?_)
  refine Qd rfl rfl rfl rfl rfl rfl (fun _=>vd (hx.2.up uc sb) (hy.2.up uc sb)) ?_
  rintro v U' D hU ⟨rfl,rfl,rfl⟩
  repeat (first|refine Qc ?_|refine Qb fun _=>?_|refine w_al fun _=>?_)
  by_cases h2:(p.den:Int)=(q.den:Int)
  ·rw [decide_eq_true h2]
   exact Qe [] sym rfl (.cons (.tmp rfl) .nil) uc sb (.inl rfl) ⟨QdS (Rat.ext h (by omega)),rfl,rfl⟩
  ·rw [decide_eq_false h2]
   exact Qe [] sym rfl (.cons (.tmp rfl) .nil) uc sb (.inl rfl) ⟨Yv (fun e=>h2 (by rw [e])),rfl,rfl⟩
 ·rw [decide_eq_false h]
  repeat (first|refine Qc ?_|refine Qb fun _=>?_|refine w_al fun _=>?_)
  exact Qe [] sym rfl (.cons (.tmp rfl) .nil) uc sb (.inl rfl) ⟨Yv (fun e=>h (by rw [e])),rfl,rfl⟩
theorem yd {m n:Nat} {vx vy:Value} {f g:Nat→Rat} (hx:Ls Vq 4 m U M vx f) (hy:Ls Vq 4 n U M vy g) (hm:m≤1000000000) (hn:n≤1000000000) :
  Ct Try.prog 37 [vx,vy] G U M fun v U' D=>∃ b:Bool,v = .bool b∧(b=true↔m=n∧∀ i,i < n→f i=g i)∧U=U'∧D=[]:=by
 obtain ⟨px,cx,xs,rfl,-,rx,ex⟩:=hx
 obtain ⟨py,cy,ys,rfl,-,ry,ey⟩:=hy
 refine Qf Try.func37 rfl rfl rfl rfl ?_
 try refine Qa ?_
 refine JU rfl (fun h1=>?_) (fun h1=>?_)
 ·have hne:¬ m=n:=by omega
  try refine Qa ?_
  exact Qe [] sym rfl (.cons (.tmp rfl) .nil) uc sb (.inl rfl) ⟨false,rfl,⟨(fun h=>by cases h),fun h=>absurd h.1 hne⟩,rfl,rfl⟩
 ·have e:m=n:=by omega
  subst e
  try refine Qa ?_
  refine Qm (fun z E U' M'=>∃ i:Nat,i≤m∧(∀ j,j < i→f j=g j)∧E=[(5,.int .i64 (i:Int)),(0,.slice px m cx),(1,.slice py m cy)]∧U=U'∧M=M'∧z=m - i) (n0:=m)
   (E0:=[(5,.int .i64 ((0:Nat):Int)),(0,.slice px m cx),(1,.slice py m cy)]) ⟨rfl,rfl,rfl,trivial⟩ ⟨0,by omega,(fun j h=>absurd h (Nat.not_lt_zero j)),rfl,rfl,rfl,rfl⟩ ?_
  rintro z E U' M' ⟨i,hi,hall,rfl,rfl,rfl,rfl⟩
  try refine Qa ?_
  refine Qk rfl (fun h2=>?_) (fun h2=>?_)
  ·have him:i < m:=by omega
   obtain ⟨v1,hv1⟩:=rx.at him
   obtain ⟨x1,rfl,hx1⟩:=ex _ _ hv1
   obtain ⟨v2,hv2⟩:=ry.at him
   obtain ⟨x2,rfl,hx2⟩:=ey _ _ hv2
   try refine Qa ?_
   refine Qq [0,1,2,3,4,5,6,7,8,9] sym (by kernel_rfl) ?_
   try refine Qa ?_
   refine sl_y (Qj sym rfl rfl rfl rfl rfl rfl (rx.lt hv1) (rx.get _ _ hv1).1) rfl rfl rfl rfl ?_; refine sl_y (Qu sym rfl rfl rfl rfl rfl rx hv1) rfl rfl rfl rfl ?_
   try refine Qa ?_
   refine sl_y (Qj sym rfl rfl rfl rfl rfl rfl (ry.lt hv2) (ry.get _ _ hv2).1) rfl rfl rfl rfl ?_; refine sl_y (Qu sym rfl rfl rfl rfl rfl ry hv2) rfl rfl rfl rfl ?_
   refine Qd rfl rfl rfl rfl rfl rfl (fun _=>YM (hx1.up uc sb) (hx2.up uc sb)) ?_
   rintro v U' D hU ⟨rfl,rfl,rfl⟩
   repeat (first|refine Qc ?_|refine Qb fun _=>?_|refine w_al fun _=>?_)
   by_cases h3:f i=g i
   ·rw [decide_eq_true h3]
    try refine Qa ?_
    exact Qi (E':=[(5,.int .i64 ((i:Int)+1)),(0,.slice px m cx),(1,.slice py m cy)]) (m:=m - (i+1)) ⟨rfl,rfl,rfl,trivial⟩ (by omega)
     ⟨i+1,by omega,(fun j hj=>by
      rcases Nat.lt_or_eq_of_le (Nat.le_of_lt_succ hj) with h | h
      ·exact hall j h
      ·rw [h]; exact h3),rfl,rfl,rfl,rfl⟩
   ·rw [decide_eq_false h3]
    try refine Qa ?_
    exact Qe [] sym rfl (.cons (.tmp rfl) .nil) uc sb (.inl rfl) ⟨false,rfl,⟨(fun h=>by cases h),fun h=>absurd (h.2 i him) h3⟩,rfl,rfl⟩
  ·have e:i=m:=by omega
   subst e
   try refine Qa ?_
   exact Qe [] sym rfl (.cons (.tmp rfl) .nil) uc sb (.inl rfl) ⟨true,rfl,⟨fun _=>⟨rfl,hall⟩,fun _=>rfl⟩,rfl,rfl⟩
theorem Qaf {α β:Type} {ok1:UH→Value→α→Prop} {ok2:UH→Value→β→Prop} {m n:Nat} {vx vy:Value} {f:Nat→α} {g:Nat→β} (z1:α→Int) (z2:β→Int) (h1:∀ U v a,ok1 U v a→v = .int .i64 (z1 a)) (h2:∀ U v a,ok2 U v a→v = .int .i64 (z2 a)) (hx:Ls ok1 1 m U M vx f) (hy:Ls ok2 1 n U M vy g) (hm:m≤1000000000) (hn:n≤1000000000) :
  Ct Try.prog 18 [vx,vy] G U M fun v U' D=>∃ b:Bool,v = .bool b∧(b=true↔m=n∧∀ i,i < n→z1 (f i)=z2 (g i))∧U=U'∧D=[]:=by
 obtain ⟨px,cx,xs,rfl,-,rx,ex⟩:=hx
 obtain ⟨py,cy,ys,rfl,-,ry,ey⟩:=hy
 refine Qf Try.func18 rfl rfl rfl rfl ?_
 try refine Qa ?_
 refine JU rfl (fun h3=>?_) (fun h3=>?_)
 ·have hne:¬ m=n:=by omega
  try refine Qa ?_
  exact Qe [] sym rfl (.cons (.tmp rfl) .nil) uc sb (.inl rfl) ⟨false,rfl,⟨(fun h=>by cases h),fun h=>absurd h.1 hne⟩,rfl,rfl⟩
 ·have e:m=n:=by omega
  subst e
  try refine Qa ?_
  refine Qm (fun z E U' M'=>∃ i:Nat,i≤m∧(∀ j,j < i→z1 (f j)=z2 (g j))∧E=[(5,.int .i64 (i:Int)),(0,.slice px m cx),(1,.slice py m cy)]∧U=U'∧M=M'∧z=m - i) (n0:=m)
   (E0:=[(5,.int .i64 ((0:Nat):Int)),(0,.slice px m cx),(1,.slice py m cy)]) ⟨rfl,rfl,rfl,trivial⟩ ⟨0,by omega,(fun j h=>absurd h (Nat.not_lt_zero j)),rfl,rfl,rfl,rfl⟩ ?_
  rintro z E U' M' ⟨i,hi,hall,rfl,rfl,rfl,rfl⟩
  try refine Qa ?_
  refine Qk rfl (fun h4=>?_) (fun h4=>?_)
  ·have him:i < m:=by omega
   obtain ⟨v1,hv1⟩:=rx.at him
   obtain rfl:=h1 _ _ _ (ex _ _ hv1)
   obtain ⟨v2,hv2⟩:=ry.at him
   obtain rfl:=h2 _ _ _ (ey _ _ hv2)
   try refine Qa ?_
   refine Qq [0,1,2,3,4,5,6,7,8] sym (by kernel_rfl) ?_
   try refine Qa ?_
   refine sl_y (Qj sym rfl rfl rfl rfl rfl rfl (rx.lt hv1) (rx.get _ _ hv1).1) rfl rfl rfl rfl ?_; refine sl_y (Qp sym rfl rfl rfl rfl rx hv1 rfl) rfl rfl rfl rfl ?_
   try refine Qa ?_
   refine sl_y (Qj sym rfl rfl rfl rfl rfl rfl (ry.lt hv2) (ry.get _ _ hv2).1) rfl rfl rfl rfl ?_; refine sl_y (Qp sym rfl rfl rfl rfl ry hv2 rfl) rfl rfl rfl rfl ?_
   try refine Qa ?_
   refine JU rfl (fun h5=>?_) (fun h5=>?_)
   ·try refine Qa ?_
    exact Qe [] sym rfl (.cons (.tmp rfl) .nil) uc sb (.inl rfl) ⟨false,rfl,⟨(fun h=>by cases h),fun h=>absurd (h.2 i him) h5⟩,rfl,rfl⟩
   ·try refine Qa ?_
    exact Qi (E':=[(5,.int .i64 ((i:Int)+1)),(0,.slice px m cx),(1,.slice py m cy)]) (m:=m - (i+1)) ⟨rfl,rfl,rfl,trivial⟩ (by omega)
     ⟨i+1,by omega,(fun j hj=>by
      rcases Nat.lt_or_eq_of_le (Nat.le_of_lt_succ hj) with h | h
      ·exact hall j h
      ·rw [h]; exact h5),rfl,rfl,rfl,rfl⟩
  ·have e:i=m:=by omega
   subst e
   try refine Qa ?_
   exact Qe [] sym rfl (.cons (.tmp rfl) .nil) uc sb (.inl rfl) ⟨true,rfl,⟨fun _=>⟨rfl,hall⟩,fun _=>rfl⟩,rfl,rfl⟩
theorem YP {r c r' c':Nat} {vx vy:Value} {A B:Nat→Nat→Rat} (hx:Vm Vq r c U vx A) (hy:Vm Vq r' c' U vy B) (hrc:r*c≤1000000000) (hrc':r'*c'≤1000000000) :
  Ct Try.prog 15 [vx,vy] G U M fun v U' D=>∃ b:Bool,v = .bool b∧(b=true↔r=r'∧c=c'∧∀ i j,i < r→j < c→A i j=B i j)∧U=U'∧D=[]:=by
 obtain ⟨_,rfl,hx2⟩:=hx
 obtain ⟨_,rfl,hy2⟩:=hy
 obtain ⟨px,cx,xs,rfl,-⟩:=id hx2
 obtain ⟨py,cy,ys,rfl,-⟩:=id hy2
 refine Qf Try.func15 rfl rfl rfl rfl ?_
 repeat (first|refine Qc ?_|refine Qb fun _=>?_|refine w_al fun _=>?_)
 refine Qw rfl rfl (fun h1=>?_) (fun h1=>?_)
 ·have e:r=r':=by omega
  subst e
  repeat (first|refine Qc ?_|refine Qb fun _=>?_|refine w_al fun _=>?_)
  refine Qw rfl rfl (fun h2=>?_) (fun h2=>?_)
  ·have e:c=c':=by omega
   subst e
   repeat (first|refine Qc ?_|refine Qb fun _=>?_|refine w_al fun _=>?_)
   refine Qd rfl rfl rfl rfl rfl rfl (fun _=>yd (Ls.up (M':=_) hx2 QA uc sb) (Ls.up (M':=_) hy2 QA uc sb) hrc hrc) ?_
   rintro v U1 D hU ⟨b,rfl,hb,rfl,rfl⟩
   repeat (first|refine Qc ?_|refine Qb fun _=>?_|refine w_al fun _=>?_)
   refine Qe [] sym rfl (.cons (.tmp rfl) .nil) uc sb (.inl rfl) ⟨b,rfl,hb.trans ⟨fun h=>⟨rfl,rfl,fun i j hi hj=>?_⟩,fun h=>⟨rfl,fun k hk=>h.2.2 _ _ (qF hk).1 (qF hk).2⟩⟩,rfl,rfl⟩
   have:=h.2 _ (vG hi hj)
   rwa [qI hj,qI hj] at this
  ·repeat (first|refine Qc ?_|refine Qb fun _=>?_|refine w_al fun _=>?_)
   exact Qe [] sym rfl (.cons (.tmp rfl) .nil) uc sb (.inl rfl) ⟨false,rfl,⟨(fun h=>by cases h),fun h=>absurd (congrArg Int.ofNat h.2.1) h2⟩,rfl,rfl⟩
 ·repeat (first|refine Qc ?_|refine Qb fun _=>?_|refine w_al fun _=>?_)
  exact Qe [] sym rfl (.cons (.tmp rfl) .nil) uc sb (.inl rfl) ⟨false,rfl,⟨(fun h=>by cases h),fun h=>absurd (congrArg Int.ofNat h.1) h1⟩,rfl,rfl⟩
end Go.Proofs.Ytahcddpdgpjbnaa

/- Walks of the helpers of layer 9's statements: are matrices small? -/
namespace Go.Proofs.Ytahcddpdgpjbnaa
open Go.Hp
variable {G:World} {U U':UH} {M M':MH}
def Xq (U:UH) (v:Value) (q:Rat):Prop:=∃ x:QV,v=x.v∧x.rep U [] q
theorem QaE:Kept Xq:=fun _ _ _ _ hU ⟨x,h1,h2⟩=>⟨x,h1,h2.up hU (List.Sublist.refl _)⟩
theorem jX {n c1:Nat} {p1:Option Addr} {as1:List Value} {f:Nat→Rat} (ra:RowAt U M 4 p1 n as1) (ea:El Xq U as1 f) (hn:n≤9223372036854775807) :
  Ct Try.prog 21 [.slice p1 n c1] G U M fun v U' D=>∃ b:Bool,v = .bool b∧(b=true→El (Wq 1) U as1 f)∧U=U'∧D=[]:=by
 refine Qf Try.func21 rfl rfl rfl rfl ?_
 try refine Qa ?_
 refine Qm (fun z E U' M'=>∃ i:Nat,i≤n∧(∀ k x,k < i→as1[k]?=some x→Wq 1 U x (f k))∧E=[(3,.int .i64 (i:Int)),(0,.slice p1 n c1)]∧U=U'∧M=M'∧z=n - i) (n0:=n)
  (E0:=[(3,.int .i64 ((0:Nat):Int)),(0,.slice p1 n c1)]) ⟨rfl,rfl,trivial⟩ ⟨0,by omega,(fun k x h=>absurd h (Nat.not_lt_zero k)),rfl,rfl,rfl,rfl⟩ ?_
 rintro z E U' M' ⟨i,hi,hall,rfl,rfl,rfl,rfl⟩
 try refine Qa ?_
 refine Qk rfl (fun h=>?_) (fun h=>?_)
 ·have hin:i < n:=by omega
  obtain ⟨v1,hv1⟩:=ra.at hin
  obtain ⟨x1,rfl,hx1⟩:=ea _ _ hv1
  try refine Qa ?_
  refine QF (j:=i) hin (ra.get _ _ hv1).1 ?_
  try refine Qa ?_
  refine sl_y (Jf (j:=1) (u := .slice x1.num.p x1.num.n x1.num.c) sym rfl rfl (by rw [Jl,Jl]) rfl rfl ra hv1 rfl) rfl rfl rfl rfl ?_
  try refine Qa ?_
  refine Qw rfl rfl (fun h1=>?_) (fun h1=>?_)
  ·try refine Qa ?_
   exact Qe [] sym rfl (.cons (.tmp rfl) .nil) uc sb (.inl rfl) ⟨false,rfl,(fun h=>by cases h),rfl,rfl⟩
  ·try refine Qa ?_
   refine QF (j:=i) hin (ra.get _ _ hv1).1 ?_
   try refine Qa ?_
   refine sl_y (Jf (j:=3) (u := .slice x1.den.p x1.den.n x1.den.c) sym rfl rfl (by rw [Jl,Jl]) rfl rfl ra hv1 rfl) rfl rfl rfl rfl ?_
   try refine Qa ?_
   refine Qk rfl (fun h2=>?_) (fun h2=>?_)
   ·try refine Qa ?_
    exact Qe [] sym rfl (.cons (.tmp rfl) .nil) uc sb (.inl rfl) ⟨false,rfl,(fun h=>by cases h),rfl,rfl⟩
   ·try refine Qa ?_
    exact Qi (E':=[(3,.int .i64 ((i:Int)+1)),(0,.slice p1 n c1)]) (m:=n - (i+1)) ⟨rfl,rfl,trivial⟩ (by omega)
     ⟨i+1,by omega,(fun k x hk hx=>by
      rcases Nat.lt_or_eq_of_le (Nat.le_of_lt_succ hk) with h3 | h3
      ·exact hall k x h3 hx
      ·subst h3
       rw [hv1] at hx
       cases hx
       exact ⟨x1,rfl,hx1,⟨by omega,by omega⟩⟩),rfl,rfl,rfl,rfl⟩
 ·have e:i=n:=by omega
  subst e
  try refine Qa ?_
  exact Qe [] sym rfl (.cons (.tmp rfl) .nil) uc sb (.inl rfl) ⟨true,rfl,(fun _ k x hk=>hall k x (ra.lt hk) hk),rfl,rfl⟩
structure Raw (U:UH) (v:Value) (r c:Int) (n:Nat) (f:Nat→Rat):Prop where
 rows : -9223372036854775808≤r∧r≤9223372036854775807
 cols : -9223372036854775808≤c∧c≤9223372036854775807
 num:n≤9223372036854775807
 elt:∃ a,v = .agg #[.int .i64 r,.int .i64 c,a]∧Ls Xq 4 n U [] a f
theorem Raw.up {v:Value} {r c:Int} {n:Nat} {f:Nat→Rat} (h:Raw U v r c n f) (hU:ULe U U'):Raw U' v r c n f:=by
 obtain ⟨a,h1,h2⟩:=h.elt
 exact ⟨h.rows,h.cols,h.num,a,h1,h2.up QaE hU (List.Sublist.refl _)⟩
def Lit (most:Nat) (U:UH) (v:Value) (r c:Int) (n:Nat) (f:Nat→Rat):Prop :=
 n≤most*most∧(Vld r c n→r≤most∧c≤most)∧∃ a,v = .agg #[.int .i64 r,.int .i64 c,a]∧Ls (Wq 1) 4 n U [] a f
theorem QcE {most m:Nat} {pl:Option Addr} {cl:Nat} {vs:List Value} {r c:Nat→Int} {n:Nat→Nat} {f:Nat→Nat→Rat} (rl:RowAt U M 3 pl m vs) (hv:∀ k v,vs[k]?=some v→Raw U v (r k) (c k) (n k) (f k)) (hm:most≤100) (hm2:m≤100) :
  Ct Try.prog 5 [.int .i64 (most:Int),.slice pl m cl] G U M fun v U' D=>∃ b:Bool,v = .bool b∧(b=true→∀ k v,vs[k]?=some v→Lit most U v (r k) (c k) (n k) (f k))∧U=U'∧D=[]:=by
 have hmm:most*most≤100*100:=Nat.mul_le_mul hm hm
 refine Qf Try.func5 rfl rfl rfl rfl ?_
 try refine Qa ?_
 refine Qm (fun z E U' M'=>∃ i:Nat,i≤m∧(∀ k v,k < i→vs[k]?=some v→Lit most U v (r k) (c k) (n k) (f k))∧E=[(5,.int .i64 (i:Int)),(0,.int .i64 (most:Int)),(1,.slice pl m cl)]∧U=U'∧M=M'∧z=m - i) (n0:=m)
  (E0:=[(5,.int .i64 ((0:Nat):Int)),(0,.int .i64 (most:Int)),(1,.slice pl m cl)]) ⟨rfl,rfl,rfl,trivial⟩ ⟨0,by omega,(fun k x h=>absurd h (Nat.not_lt_zero k)),rfl,rfl,rfl,rfl⟩ ?_
 rintro z E U' M' ⟨i,hi,hall,rfl,rfl,rfl,rfl⟩
 try refine Qa ?_
 refine Qk rfl (fun h=>?_) (fun h=>?_)
 ·have him:i < m:=by omega
  obtain ⟨v1,hv1⟩:=rl.at him
  have hraw:=hv _ _ hv1
  obtain ⟨hr,hc,hn,_,rfl,hls⟩:=hraw
  obtain ⟨p1,c1,as1,rfl,hc1,ra,ea⟩:=id hls
  have hp:=(rl.get _ _ hv1).1
  try refine Qa ?_
  refine QF (j:=i) him hp ?_
  try refine Qa ?_
  refine sl_y (Jf (j:=2) (u := .slice p1 (n i) c1) sym rfl rfl (by rw [Jl]) rfl rfl rl hv1 rfl) rfl rfl rfl rfl ?_
  try refine Qa ?_
  refine Qw rfl rfl (fun h1=>?_) (fun h1=>?_)
  ·try refine Qa ?_
   exact Qe [] sym rfl (.cons (.tmp rfl) .nil) uc sb (.inl rfl) ⟨false,rfl,(fun h=>by cases h),rfl,rfl⟩
  ·try refine Qa ?_
   refine sl_y (Qj sym rfl rfl rfl rfl rfl rfl (rl.lt hv1) (rl.get _ _ hv1).1) rfl rfl rfl rfl ?_; refine sl_y (Qu sym rfl rfl rfl rfl rfl rl hv1) rfl rfl rfl rfl ?_
   refine Qd rfl rfl rfl rfl rfl rfl (fun _=>Qas (r:=r i) (c:=c i) (p:=p1) (cc:=c1) hn) ?_
   rintro v U' D hU ⟨rfl,rfl,rfl⟩
   repeat (first|refine Qc ?_|refine Qb fun _=>?_|refine w_al fun _=>?_)
   by_cases hV:Vld (r i) (c i) (n i)
   ·rw [decide_eq_true hV]
    try refine Qa ?_
    refine QF (j:=i) him hp ?_
    try refine Qa ?_
    refine sl_y (Jf (j:=0) (u := .int .i64 (r i)) sym rfl rfl (by rw [Jl]) rfl rfl rl hv1 rfl) rfl rfl rfl rfl ?_
    try refine Qa ?_
    refine Qw rfl rfl (fun h2=>?_) (fun h2=>?_)
    ·try refine Qa ?_
     exact Qe [] sym rfl (.cons (.tmp rfl) .nil) uc sb (.inl rfl) ⟨false,rfl,(fun h=>by cases h),rfl,rfl⟩
    ·try refine Qa ?_
     refine QF (j:=i) him hp ?_
     try refine Qa ?_
     refine sl_y (Jf (j:=1) (u := .int .i64 (c i)) sym rfl rfl (by rw [Jl]) rfl rfl rl hv1 rfl) rfl rfl rfl rfl ?_
     try refine Qa ?_
     refine Qw rfl rfl (fun h3=>?_) (fun h3=>?_)
     ·try refine Qa ?_
      exact Qe [] sym rfl (.cons (.tmp rfl) .nil) uc sb (.inl rfl) ⟨false,rfl,(fun h=>by cases h),rfl,rfl⟩
     ·try refine Qa ?_
      refine QF (j:=i) him hp ?_
      try refine Qa ?_
      refine sl_y (Jf (j:=2) (u := .slice p1 (n i) c1) sym rfl rfl (by rw [Jl]) rfl rfl rl hv1 rfl) rfl rfl rfl rfl ?_
      try refine Qa ?_
      refine Qd rfl rfl rfl rfl rfl rfl (fun _=>jX (ra.ls uc) ea (by omega)) ?_
      rintro v4 U4 D4 hU ⟨b,rfl,hb,rfl,rfl⟩
      cases b
      ·try refine Qa ?_
       exact Qe [] sym rfl (.cons (.tmp rfl) .nil) uc sb (.inl rfl) ⟨false,rfl,(fun h=>by cases h),rfl,rfl⟩
      ·try refine Qa ?_
       exact Qi (E':=[(5,.int .i64 ((i:Int)+1)),(0,.int .i64 (most:Int)),(1,.slice pl m cl)]) (m:=m - (i+1)) ⟨rfl,rfl,rfl,trivial⟩ (by omega)
        ⟨i+1,by omega,(fun k x hk hx=>by
         rcases Nat.lt_or_eq_of_le (Nat.le_of_lt_succ hk) with h3 | h3
         ·exact hall k x h3 hx
         ·subst h3
          rw [hv1] at hx
          cases hx
          have hnb:n k≤most*most:=by
           have:((n k:Nat):Int)≤((most*most:Nat):Int):=by rw [Int.natCast_mul]; omega
           omega
          exact ⟨hnb,(fun _=>⟨by omega,by omega⟩),_,rfl,p1,c1,as1,rfl,hc1,ra,hb rfl⟩),rfl,rfl,rfl,rfl⟩
   ·rw [decide_eq_false hV]
    try refine Qa ?_
    refine QF (j:=i) him hp ?_
    try refine Qa ?_
    refine sl_y (Jf (j:=2) (u := .slice p1 (n i) c1) sym rfl rfl (by rw [Jl]) rfl rfl rl hv1 rfl) rfl rfl rfl rfl ?_
    try refine Qa ?_
    refine Qd rfl rfl rfl rfl rfl rfl (fun _=>jX (ra.ls uc) ea (by omega)) ?_
    rintro v4 U4 D4 hU ⟨b,rfl,hb,rfl,rfl⟩
    cases b
    ·try refine Qa ?_
     exact Qe [] sym rfl (.cons (.tmp rfl) .nil) uc sb (.inl rfl) ⟨false,rfl,(fun h=>by cases h),rfl,rfl⟩
    ·try refine Qa ?_
     exact Qi (E':=[(5,.int .i64 ((i:Int)+1)),(0,.int .i64 (most:Int)),(1,.slice pl m cl)]) (m:=m - (i+1)) ⟨rfl,rfl,rfl,trivial⟩ (by omega)
      ⟨i+1,by omega,(fun k x hk hx=>by
       rcases Nat.lt_or_eq_of_le (Nat.le_of_lt_succ hk) with h3 | h3
       ·exact hall k x h3 hx
       ·subst h3
        rw [hv1] at hx
        cases hx
        have hnb:n k≤most*most:=by
         have:((n k:Nat):Int)≤((most*most:Nat):Int):=by rw [Int.natCast_mul]; omega
         omega
        exact ⟨hnb,(fun h=>absurd h hV),_,rfl,p1,c1,as1,rfl,hc1,ra,hb rfl⟩),rfl,rfl,rfl,rfl⟩
 ·have e:i=m:=by omega
  subst e
  try refine Qa ?_
  exact Qe [] sym rfl (.cons (.tmp rfl) .nil) uc sb (.inl rfl) ⟨true,rfl,(fun _ k v hk=>hall k v (rl.lt hk) hk),rfl,rfl⟩
end Go.Proofs.Ytahcddpdgpjbnaa

/- Walks of the helpers of layer 9's statements: awake. -/
namespace Go.Proofs.Ytahcddpdgpjbnaa
open Go.Hp
variable {G:World} {U U':UH} {M M':MH}
theorem QM {s:Nat} {vs:List Value} (h:vs.all (fun v=>Nat.beq v.cells.toList.length s)=true):∀ v ∈ vs,v.cells.toList.length=s:=fun v hv=>Nat.eq_of_beq_eq_true (List.all_eq_true.1 h v hv)
theorem JN {b e n:Nat} {l:List Int} (hr:∀ z ∈ l,-9223372036854775808≤z∧z≤9223372036854775807) (hn:l.length=n) (hn2:n≤1000) (hM:[(b,.arr (l.map fun z => .int .i64 z),e)].Sublist M):Ls Vz 1 n U M (.slice (some ⟨b,0,none⟩) n n) (fun j=>l.getD j 0):=by
 refine ⟨_,_,l.map fun z => .int .i64 z,rfl,Nat.le_refl n,(RowO.mk (e:=e) (b:=b) (by rw [List.length_map,hn]) (fun v hv=>?_) (by omega)).at hM,fun k x hk=>?_⟩
 ·obtain ⟨z,-,rfl⟩:=List.mem_map.1 hv; rfl
 ·rw [List.getElem?_map] at hk
  obtain ⟨z,hz,rfl⟩:=Option.map_eq_some_iff.1 hk
  have:=hr z (List.mem_of_getElem? hz)
  simp only [List.getD_eq_getElem?_getD,hz,Option.getD_some]
  exact ⟨rfl,this⟩
theorem VV {b e n r:Nat} {ls:List (List Int)} {vs:List Value} (hl:vs.length=r) (hr:r≤1000) (hv:∀ k v,vs[k]?=some v→Ls Vz 1 n U M v (fun j=>(ls.getD k []).getD j 0)) (hM:[(b,.arr vs,e)].Sublist M) :
  Lz r n U M (.slice (some ⟨b,0,none⟩) r r) (fun i j=>(ls.getD i []).getD j 0):=by
 refine ⟨_,_,vs,rfl,Nat.le_refl r,(RowO.mk (e:=e) (b:=b) hl (fun v hv'=>?_) (by omega)).at hM,fun k x hk=>hv k x hk⟩
 obtain ⟨k,hk⟩:=List.mem_iff_getElem?.1 hv'
 obtain ⟨p,c,us,rfl,-⟩:=hv k v hk
 rfl
theorem QbA {z:Int} (h:z.natAbs < 4294967296):Szq (z:Rat) 1:=⟨by show z.natAbs < 4294967296 ^ 1; omega,Yw.1⟩
theorem YY {α:Type} {P:Nat→α→Prop} {a b:α} (h0:P 0 a) (h1:P 1 b):∀ k v,[a,b][k]?=some v→P k v
 | 0,v,h=>by cases h; exact h0
 | 1,v,h=>by cases h; exact h1
 | k+2,v,h=>by simp at h
abbrev zz (ls:List (List Int)):Nat→Nat→Rat:=fun i j=>(((ls.getD i []).getD j 0:Int):Rat)
theorem QdR {ls:List (List Int)} (h:∀ l ∈ ls,∀ z ∈ l,z.natAbs < 4294967296) (i j:Nat):Szq (zz ls i j) 1:=by
 refine QbA ?_
 simp only [List.getD_eq_getElem?_getD]
 cases h1:ls[i]? with
 | none=>simp
 | some l =>
  simp only [Option.getD_some]
  cases h2:l[j]? with
  | none=>simp
  | some z=>exact h l (List.mem_of_getElem? h1) z (List.mem_of_getElem? h2)
theorem QbW {r:Nat} {R:Nat→Nat→Rat} {p:Nat→Nat} (h:EchOf 2 3 r (zz [[2,4,6],[1,2,4]]) R p):r=2∧(∀ i j,i < 2→j < 3→R i j=zz [[1,2,0],[0,0,1]] i j)∧p 0=0∧p 1=2:=by
 have e0:La.Ech 2 3 (zz [[1,2,0],[0,0,1]]) (fun i=>if i=0 then 0 else 2):=by
  refine ⟨fun i hi=>?_,fun i k hik hk=>?_,fun i k hi hk=>?_,fun i j hi hj=>?_⟩
  ·split<;>omega
  ·rw [if_pos (by omega),if_neg (by omega)]; omega
  ·rcases show i=0∨i=1 by omega with rfl | rfl<;>rcases show k=0∨k=1 by omega with rfl | rfl<;>rfl
  ·rcases show i=0∨i=1 by omega with rfl | rfl
   ·simp at hj
   ·rcases show j=0∨j=1 by (simp at hj; omega) with rfl | rfl<;>rfl
 have e1:La.Same 2 2 3 (zz [[1,2,0],[0,0,1]]) (zz [[2,4,6],[1,2,4]]):=by
  refine ⟨fun i hi=>?_,fun i hi=>?_⟩
  ·rcases show i=0∨i=1 by omega with rfl | rfl
   ·refine ⟨fun k=>if k=0 then 2 else -3,fun j hj=>?_⟩
    rcases show j=0∨j=1∨j=2 by omega with rfl | rfl | rfl<;>exact of_decide_eq_true (by kernel_rfl)
   ·refine ⟨fun k=>if k=0 then Rat.divInt (-1) 2 else 1,fun j hj=>?_⟩
    rcases show j=0∨j=1∨j=2 by omega with rfl | rfl | rfl<;>exact of_decide_eq_true (by kernel_rfl)
  ·rcases show i=0∨i=1 by omega with rfl | rfl
   ·refine ⟨fun k=>if k=0 then 2 else 6,fun j hj=>?_⟩
    rcases show j=0∨j=1∨j=2 by omega with rfl | rfl | rfl<;>exact of_decide_eq_true (by kernel_rfl)
   ·refine ⟨fun k=>if k=0 then 1 else 4,fun j hj=>?_⟩
    rcases show j=0∨j=1∨j=2 by omega with rfl | rfl | rfl<;>exact of_decide_eq_true (by kernel_rfl)
 obtain ⟨h1,h2,h3⟩:=e0.unique h.ech (e1.trans h.same.symm)
 subst h1
 exact ⟨rfl,fun i j hi hj=>(h3 i j hi hj).symm,(h2 0 (by omega)).symm,(h2 1 (by omega)).symm⟩
theorem Qbv:La.det 2 (zz [[0,1],[1,0]])=((-1:Int):Rat):=of_decide_eq_true (by kernel_rfl)
set_option maxRecDepth 100000 in
theorem Qbz:Ct Try.prog 4 [] G U M fun v U' D=>v = .bool true∧ULe U U'∧D=[]:=by
 have g1:La.gro 1 2=36:=rfl
 have small:∀ ls:List (List Int),(ls.all fun l=>l.all fun z=>decide (z.natAbs < 4294967296))=true→∀ l ∈ ls,∀ z ∈ l,z.natAbs < 4294967296:=fun ls h l hl z hz=>of_decide_eq_true (List.all_eq_true.1 (List.all_eq_true.1 h l hl) z hz)
 have rng:∀ l:List Int,(l.all fun z=>decide (-9223372036854775808≤z∧z≤9223372036854775807))=true→∀ z ∈ l,-9223372036854775808≤z∧z≤9223372036854775807:=fun l h z hz=>of_decide_eq_true (List.all_eq_true.1 h z hz)
 refine Qf Try.func4 rfl rfl rfl rfl ?_
 repeat (first|refine Qc ?_|refine Qb fun _=>?_|refine w_al fun _=>?_)
 refine Qs (vs:=[.int .i64 2,.int .i64 4,.int .i64 6]) sym rfl rfl rfl rfl rfl rfl (QM rfl) rfl rfl rfl rfl rfl rfl (fun b7=>?_)
 refine Qs (vs:=[.int .i64 1,.int .i64 2,.int .i64 4]) sym rfl rfl rfl rfl rfl rfl (QM rfl) rfl rfl rfl rfl rfl rfl (fun b8=>?_)
 refine Qs (vs:=[.slice (some ⟨b7,0,none⟩) 3 3,.slice (some ⟨b8,0,none⟩) 3 3]) sym rfl rfl rfl rfl rfl rfl (QM rfl) rfl rfl rfl rfl rfl rfl (fun b9=>?_)
 refine Qd rfl rfl rfl rfl rfl rfl (fun _=>qT (VR (r:=2) (c:=3) (VV (ls:=[[2,4,6],[1,2,4]]) rfl (by decide) (YY (JN (l:=[2,4,6]) (e:=TInt) (rng _ rfl) rfl (by decide) sb) (JN (l:=[1,2,4]) (e:=TInt) (rng _ rfl) rfl (by decide) sb)) sb) (by decide) (by decide) (by decide))) ?_
 rintro vh1 Uh1 D hU ⟨h1,rfl⟩
 rw [List.nil_append]
 repeat (first|refine Qc ?_|refine Qb fun _=>?_|refine w_al fun _=>?_)
 refine Qd rfl rfl rfl rfl rfl rfl (fun _=>vJ (b:=1) (h1.w fun i j _ _=>QdR (small _ rfl) i j) (by decide) (by rw [g1]; decide) (by rw [g1]; decide) (by decide) (by decide)) ?_
 rintro v2 U2 D hU ⟨r,R,p,vR,vp,rfl,h2,h3,rfl,h4,-⟩
 rw [List.nil_append]
 obtain ⟨rfl,hR,hp0,hp1⟩:=QbW h4
 obtain ⟨_,rfl,pr,cr,rs,rfl,-⟩:=id h2
 obtain ⟨pp,cp,ps,rfl,-⟩:=id h3
 repeat (first|refine Qc ?_|refine Qb fun _=>?_|refine w_al fun _=>?_)
 refine Qs (vs:=[.int .i64 0,.int .i64 1]) sym rfl rfl rfl rfl rfl rfl (QM rfl) rfl rfl rfl rfl rfl rfl (fun d7=>?_)
 refine Qs (vs:=[.int .i64 1,.int .i64 0]) sym rfl rfl rfl rfl rfl rfl (QM rfl) rfl rfl rfl rfl rfl rfl (fun d8=>?_)
 refine Qs (vs:=[.slice (some ⟨d7,0,none⟩) 2 2,.slice (some ⟨d8,0,none⟩) 2 2]) sym rfl rfl rfl rfl rfl rfl (QM rfl) rfl rfl rfl rfl rfl rfl (fun d9=>?_)
 refine Qd rfl rfl rfl rfl rfl rfl (fun _=>qT (VR (r:=2) (c:=2) (VV (ls:=[[0,1],[1,0]]) rfl (by decide) (YY (JN (l:=[0,1]) (e:=TInt) (rng _ rfl) rfl (by decide) sb) (JN (l:=[1,0]) (e:=TInt) (rng _ rfl) rfl (by decide) sb)) sb) (by decide) (by decide) (by decide))) ?_
 rintro vh5 Uh5 D hU ⟨h5,rfl⟩
 rw [List.nil_append]
 repeat (first|refine Qc ?_|refine Qb fun _=>?_|refine w_al fun _=>?_)
 refine Qd rfl rfl rfl rfl rfl rfl (fun _=>QdC (b:=1) (h5.w fun i j _ _=>QdR (small _ rfl) i j) (by decide) (by rw [g1]; decide) (by rw [g1]; decide) (by decide)) ?_
 rintro v6 U6 D hU ⟨x6,rfl,h6,rfl,-,-⟩
 rw [List.nil_append,Qbv] at *
 repeat (first|refine Qc ?_|refine Qb fun _=>?_|refine w_al fun _=>?_)
 refine QcQ (.node 4 5 (.leaf [0,1,2,3,4,5,6,7,8,9,10,11,12,13,14,15,16,17,18,19,20,21,22,23,24]) (.leaf [0,1,2,3,5,4,6,7,8,9,10,11,12,13,14,15,16,17,18,19,20,21,22,23,24])) sym (by kernel_rfl) (by kernel_rfl) (Qcz (Qaa ?_) (Qaa ?_))
 ·repeat (first|refine Qc ?_|refine Qb fun _=>?_|refine w_al fun _=>?_)
  refine Qw rfl rfl (fun _=>?_) (fun h=>absurd rfl h)
  repeat (first|refine Qc ?_|refine Qb fun _=>?_|refine w_al fun _=>?_)
  refine Qs (vs:=[.int .i64 1,.int .i64 2,.int .i64 0]) sym rfl rfl rfl rfl rfl rfl (QM rfl) rfl rfl rfl rfl rfl rfl (fun e7=>?_)
  refine Qs (vs:=[.int .i64 0,.int .i64 0,.int .i64 1]) sym rfl rfl rfl rfl rfl rfl (QM rfl) rfl rfl rfl rfl rfl rfl (fun e8=>?_)
  refine Qs (vs:=[.slice (some ⟨e7,0,none⟩) 3 3,.slice (some ⟨e8,0,none⟩) 3 3]) sym rfl rfl rfl rfl rfl rfl (QM rfl) rfl rfl rfl rfl rfl rfl (fun e9=>?_)
  refine Qd rfl rfl rfl rfl rfl rfl (fun _=>qT (VR (r:=2) (c:=3) (VV (ls:=[[1,2,0],[0,0,1]]) rfl (by decide) (YY (JN (l:=[1,2,0]) (e:=TInt) (rng _ rfl) rfl (by decide) sb) (JN (l:=[0,0,1]) (e:=TInt) (rng _ rfl) rfl (by decide) sb)) sb) (by decide) (by decide) (by decide))) ?_
  rintro vh7 Uh7 D hU ⟨h7,rfl⟩
  rw [List.nil_append]
  repeat (first|refine Qc ?_|refine Qb fun _=>?_|refine w_al fun _=>?_)
  refine Qd rfl rfl rfl rfl rfl rfl (fun _=>YP (VA QA _ _ _ _ uc h2) h7 (by decide) (by decide)) ?_
  rintro v8 U8 D hU ⟨b,rfl,hb,rfl,rfl⟩
  obtain rfl:=hb.2 ⟨rfl,rfl,hR⟩
  repeat (first|refine Qc ?_|refine Qb fun _=>?_|refine w_al fun _=>?_)
  refine Qs (vs:=[.int .i64 0,.int .i64 2]) sym rfl rfl rfl rfl rfl rfl (QM rfl) rfl rfl rfl rfl rfl rfl (fun c7=>?_)
  refine Qd rfl rfl rfl rfl rfl rfl (fun _=>Qaf (fun k:Nat=>(k:Int)) id (fun _ _ _ h=>h) (fun _ _ _ h=>h.1) (h3.ls VB uc) (JN (l:=[0,2]) (e:=TInt) (rng _ rfl) rfl (by decide) sb) (by decide) (by decide)) ?_
  rintro v9 U9 D hU ⟨b,rfl,hb,rfl,rfl⟩
  obtain rfl:=hb.2 ⟨rfl,fun i hi=>by
   rcases show i=0∨i=1 by omega with rfl | rfl
   ·rw [hp0]; rfl
   ·rw [hp1]; rfl⟩
  repeat (first|refine Qc ?_|refine Qb fun _=>?_|refine w_al fun _=>?_)
  refine Qw rfl rfl (fun _=>?_) (fun h=>absurd rfl h)
  repeat (first|refine Qc ?_|refine Qb fun _=>?_|refine w_al fun _=>?_)
  refine Qd rfl rfl rfl rfl rfl rfl (fun _=>(Qbj (z := -1) (by decide) (by decide)).settle) ?_
  rintro v Uh9 D hU ⟨rfl,_,_,⟨xh9,rfl,h9,-⟩,-,-,hs⟩
  replace h9:=h9.sett hs
  clear hs
  repeat (first|refine Qc ?_|refine Qb fun _=>?_|refine w_al fun _=>?_)
  refine Qd rfl rfl rfl rfl rfl rfl (fun _=>YM (h6.up uc sb) (h9.up uc sb)) ?_
  rintro v U' D hU ⟨rfl,rfl,rfl⟩
  repeat (first|refine Qc ?_|refine Qb fun _=>?_|refine w_al fun _=>?_)
  rw [decide_eq_true rfl]
  repeat (first|refine Qc ?_|refine Qb fun _=>?_|refine w_al fun _=>?_)
  exact Qe [] sym rfl (.cons (.tmp rfl) .nil) uc sb (.inl rfl) ⟨rfl,uc,rfl⟩
 ·repeat (first|refine Qc ?_|refine Qb fun _=>?_|refine w_al fun _=>?_)
  refine Qw rfl rfl (fun _=>?_) (fun h=>absurd rfl h)
  repeat (first|refine Qc ?_|refine Qb fun _=>?_|refine w_al fun _=>?_)
  refine Qs (vs:=[.int .i64 0,.int .i64 0,.int .i64 1]) sym rfl rfl rfl rfl rfl rfl (QM rfl) rfl rfl rfl rfl rfl rfl (fun e8=>?_)
  refine Qs (vs:=[.int .i64 1,.int .i64 2,.int .i64 0]) sym rfl rfl rfl rfl rfl rfl (QM rfl) rfl rfl rfl rfl rfl rfl (fun e7=>?_)
  refine Qs (vs:=[.slice (some ⟨e7,0,none⟩) 3 3,.slice (some ⟨e8,0,none⟩) 3 3]) sym rfl rfl rfl rfl rfl rfl (QM rfl) rfl rfl rfl rfl rfl rfl (fun e9=>?_)
  refine Qd rfl rfl rfl rfl rfl rfl (fun _=>qT (VR (r:=2) (c:=3) (VV (ls:=[[1,2,0],[0,0,1]]) rfl (by decide) (YY (JN (l:=[1,2,0]) (e:=TInt) (rng _ rfl) rfl (by decide) sb) (JN (l:=[0,0,1]) (e:=TInt) (rng _ rfl) rfl (by decide) sb)) sb) (by decide) (by decide) (by decide))) ?_
  rintro vh7 Uh7 D hU ⟨h7,rfl⟩
  rw [List.nil_append]
  repeat (first|refine Qc ?_|refine Qb fun _=>?_|refine w_al fun _=>?_)
  refine Qd rfl rfl rfl rfl rfl rfl (fun _=>YP (VA QA _ _ _ _ uc h2) h7 (by decide) (by decide)) ?_
  rintro v8 U8 D hU ⟨b,rfl,hb,rfl,rfl⟩
  obtain rfl:=hb.2 ⟨rfl,rfl,hR⟩
  repeat (first|refine Qc ?_|refine Qb fun _=>?_|refine w_al fun _=>?_)
  refine Qs (vs:=[.int .i64 0,.int .i64 2]) sym rfl rfl rfl rfl rfl rfl (QM rfl) rfl rfl rfl rfl rfl rfl (fun c7=>?_)
  refine Qd rfl rfl rfl rfl rfl rfl (fun _=>Qaf (fun k:Nat=>(k:Int)) id (fun _ _ _ h=>h) (fun _ _ _ h=>h.1) (h3.ls VB uc) (JN (l:=[0,2]) (e:=TInt) (rng _ rfl) rfl (by decide) sb) (by decide) (by decide)) ?_
  rintro v9 U9 D hU ⟨b,rfl,hb,rfl,rfl⟩
  obtain rfl:=hb.2 ⟨rfl,fun i hi=>by
   rcases show i=0∨i=1 by omega with rfl | rfl
   ·rw [hp0]; rfl
   ·rw [hp1]; rfl⟩
  repeat (first|refine Qc ?_|refine Qb fun _=>?_|refine w_al fun _=>?_)
  refine Qw rfl rfl (fun _=>?_) (fun h=>absurd rfl h)
  repeat (first|refine Qc ?_|refine Qb fun _=>?_|refine w_al fun _=>?_)
  refine Qd rfl rfl rfl rfl rfl rfl (fun _=>(Qbj (z := -1) (by decide) (by decide)).settle) ?_
  rintro v Uh9 D hU ⟨rfl,_,_,⟨xh9,rfl,h9,-⟩,-,-,hs⟩
  replace h9:=h9.sett hs
  clear hs
  repeat (first|refine Qc ?_|refine Qb fun _=>?_|refine w_al fun _=>?_)
  refine Qd rfl rfl rfl rfl rfl rfl (fun _=>YM (h6.up uc sb) (h9.up uc sb)) ?_
  rintro v U' D hU ⟨rfl,rfl,rfl⟩
  repeat (first|refine Qc ?_|refine Qb fun _=>?_|refine w_al fun _=>?_)
  rw [decide_eq_true rfl]
  repeat (first|refine Qc ?_|refine Qb fun _=>?_|refine w_al fun _=>?_)
  exact Qe [] sym rfl (.cons (.tmp rfl) .nil) uc sb (.inl rfl) ⟨rfl,uc,rfl⟩
end Go.Proofs.Ytahcddpdgpjbnaa
