/- Texts of this seat's own, merged: each begins with its own remark. -/
import Derived.Test.YthnnlgjlhnmhnaaGreatM23
import Derived.Test.YthnnlgjlhnmhnaaGreatM17
/- Walks of the statements' helpers: rows of integers, comparisons of rows and matrices. -/
namespace Go.Proofs.YthnnlgjlhnmhnaaGreat
open Go.Hp
variable {G:World} {U U':UH} {M M':MH}
def Vz (_:UH) (v:Value) (z:Int):Prop:=v = .int .i64 z ∧ -9223372036854775808≤z∧z≤9223372036854775807
theorem QgY:Kept Vz:=fun _ _ _ _ _ h=>h
theorem QiZ {n:Nat} {vl:Value} {z:Nat→Int} (hl:Ls Vz 1 n U M vl z) (hn:n≤1000000) :
  Ct Tryz.prog 17 [vl] G U M fun v U' D=>Lo Vq TR 4 n U' D v (fun i=>((z i:Int):Rat))∧ULe U U':=by
 obtain ⟨p1,c1,as1,rfl,-,ra,ea⟩:=hl
 refine Qh Tryz.func17 rfl rfl rfl rfl ?_
 repeat (first|refine Qc ?_|refine Qa fun _=>?_|refine w_al fun _=>?_)
 refine Ql (fun m E U' M'=>∃ (i:Nat) (p:Option Addr) (c:Nat) (vs:List Value) (D:MH),i≤n∧RowO TR 4 D p i c vs∧El Vq U' vs (fun i=>((z i:Int):Rat))∧E=[(3,.slice p i c),(4,.int .i64 (i:Int)),(0,.slice p1 n c1)]∧ULe U U'∧M'=D++M∧m=n - i) (n0:=n)
  (E0:=[(3,.slice none 0 0),(4,.int .i64 ((0:Nat):Int)),(0,.slice p1 n c1)]) ⟨rfl,rfl,rfl,trivial⟩ ⟨0,none,0,[],[],by omega,RowO.nil,El.nil,rfl,uc,rfl,rfl⟩ ?_
 rintro m E U' M' ⟨i,p,c,vs,D,hi,hrow,hel,rfl,hU,rfl,rfl⟩
 try refine Qb ?_
 refine Qi rfl (fun h=>?_) (fun h=>?_)
 ·have hin:i < n:=by omega
  obtain ⟨v1,hv1⟩:=ra.at hin
  obtain ⟨rfl,hz0,hz1⟩:=ea _ _ hv1
  try refine Qb ?_
  refine sl_y (Qf sym rfl rfl rfl rfl rfl rfl ((ra.up uc sb).lt hv1) ((ra.up uc sb).get _ _ hv1).1) rfl rfl rfl rfl ?_; refine sl_y (Qk sym rfl rfl rfl rfl (ra.up uc sb) hv1 rfl) rfl rfl rfl rfl ?_
  refine Qd rfl rfl rfl rfl rfl rfl (fun _=>(vO hz0 hz1).settle) ?_
  rintro v Uh1 D hU ⟨rfl,_,_,⟨xh1,rfl,h1,-⟩,-,-,hs⟩
  replace h1:=h1.sett hs
  clear hs
  repeat (first|refine Qc ?_|refine Qa fun _=>?_|refine w_al fun _=>?_)
  refine Ye hrow (List.Perm.refl _) (fun bhr2 phr2 chr2 Dhr2 hr2=>?_)
  repeat (first|refine Qc ?_|refine Qa fun _=>?_|refine w_al fun _=>?_)
  exact Qg (E':=[(3,.slice phr2 (i+1) chr2),(4,.int .i64 ((i:Int)+1)),(0,.slice p1 n c1)]) (m:=n - (i+1)) ⟨rfl,rfl,rfl,trivial⟩ (by omega)
   ⟨i+1,phr2,chr2,_,Dhr2,by omega,hr2,JV hrow.len.1 (hel.up QF uc) ⟨xh1,rfl,h1⟩,rfl,uc,rfl,rfl⟩
 ·try refine Qb ?_
  have e:i=n:=by omega
  subst e
  exact Qe D sym rfl (.cons (.tmp rfl) .nil) uc sb (.inl rfl) ⟨⟨p,c,vs,rfl,hrow,hel⟩,uc⟩
theorem Qck {x y:QV} {p q:Rat} (hx:x.nrm U M p) (hy:y.nrm U M q) :
  Ct Tryz.prog 77 [x.v,y.v] G U M fun v U' D=>v = .bool (decide (p=q))∧U=U'∧D=[]:=by
 refine Qh Tryz.func77 rfl rfl rfl rfl ?_
 repeat (first|refine Qc ?_|refine Qa fun _=>?_|refine w_al fun _=>?_)
 refine Qd rfl rfl rfl rfl rfl rfl (fun _=>Qby (hx.1.up uc sb) (hy.1.up uc sb)) ?_
 rintro v U' D hU ⟨rfl,rfl,rfl⟩
 repeat (first|refine Qc ?_|refine Qa fun _=>?_|refine w_al fun _=>?_)
 by_cases h:p.num=q.num
 ·rw [decide_eq_true h]
  repeat (first|refine Qc ?_|refine Qa fun _=>?_|refine w_al fun _=>?_)
  refine Qd rfl rfl rfl rfl rfl rfl (fun _=>Qby (hx.2.up uc sb) (hy.2.up uc sb)) ?_
  rintro v U' D hU ⟨rfl,rfl,rfl⟩
  repeat (first|refine Qc ?_|refine Qa fun _=>?_|refine w_al fun _=>?_)
  by_cases h2:(p.den:Int)=(q.den:Int)
  ·rw [decide_eq_true h2]
   exact Qe [] sym rfl (.cons (.tmp rfl) .nil) uc sb (.inl rfl) ⟨QgW (Rat.ext h (by omega)),rfl,rfl⟩
  ·rw [decide_eq_false h2]
   exact Qe [] sym rfl (.cons (.tmp rfl) .nil) uc sb (.inl rfl) ⟨VX (fun e=>h2 (by rw [e])),rfl,rfl⟩
 ·rw [decide_eq_false h]
  repeat (first|refine Qc ?_|refine Qa fun _=>?_|refine w_al fun _=>?_)
  exact Qe [] sym rfl (.cons (.tmp rfl) .nil) uc sb (.inl rfl) ⟨VX (fun e=>h (by rw [e])),rfl,rfl⟩
theorem Qbd {m n:Nat} {vx vy:Value} {f g:Nat→Rat} (hx:Ls Vq 4 m U M vx f) (hy:Ls Vq 4 n U M vy g) (hm:m≤1000000000) (hn:n≤1000000000) :
  Ct Tryz.prog 40 [vx,vy] G U M fun v U' D=>∃ b:Bool,v = .bool b∧(b=true↔m=n∧∀ i,i < n→f i=g i)∧U=U'∧D=[]:=by
 obtain ⟨px,cx,xs,rfl,-,rx,ex⟩:=hx
 obtain ⟨py,cy,ys,rfl,-,ry,ey⟩:=hy
 refine Qh Tryz.func40 rfl rfl rfl rfl ?_
 try refine Qb ?_
 refine QK rfl (fun h1=>?_) (fun h1=>?_)
 ·have hne:¬ m=n:=by omega
  try refine Qb ?_
  exact Qe [] sym rfl (.cons (.tmp rfl) .nil) uc sb (.inl rfl) ⟨false,rfl,⟨(fun h=>by cases h),fun h=>absurd h.1 hne⟩,rfl,rfl⟩
 ·have e:m=n:=by omega
  subst e
  try refine Qb ?_
  refine Ql (fun z E U' M'=>∃ i:Nat,i≤m∧(∀ j,j < i→f j=g j)∧E=[(5,.int .i64 (i:Int)),(0,.slice px m cx),(1,.slice py m cy)]∧U=U'∧M=M'∧z=m - i) (n0:=m)
   (E0:=[(5,.int .i64 ((0:Nat):Int)),(0,.slice px m cx),(1,.slice py m cy)]) ⟨rfl,rfl,rfl,trivial⟩ ⟨0,by omega,(fun j h=>absurd h (Nat.not_lt_zero j)),rfl,rfl,rfl,rfl⟩ ?_
  rintro z E U' M' ⟨i,hi,hall,rfl,rfl,rfl,rfl⟩
  try refine Qb ?_
  refine Qi rfl (fun h2=>?_) (fun h2=>?_)
  ·have him:i < m:=by omega
   obtain ⟨v1,hv1⟩:=rx.at him
   obtain ⟨x1,rfl,hx1⟩:=ex _ _ hv1
   obtain ⟨v2,hv2⟩:=ry.at him
   obtain ⟨x2,rfl,hx2⟩:=ey _ _ hv2
   try refine Qb ?_
   refine Qt [0,1,2,3,4,5,6,7,8,9] sym (by kernel_rfl) ?_
   try refine Qb ?_
   refine sl_y (Qf sym rfl rfl rfl rfl rfl rfl (rx.lt hv1) (rx.get _ _ hv1).1) rfl rfl rfl rfl ?_; refine sl_y (Qp sym rfl rfl rfl rfl rfl rx hv1) rfl rfl rfl rfl ?_
   try refine Qb ?_
   refine sl_y (Qf sym rfl rfl rfl rfl rfl rfl (ry.lt hv2) (ry.get _ _ hv2).1) rfl rfl rfl rfl ?_; refine sl_y (Qp sym rfl rfl rfl rfl rfl ry hv2) rfl rfl rfl rfl ?_
   refine Qd rfl rfl rfl rfl rfl rfl (fun _=>Qck (hx1.up uc sb) (hx2.up uc sb)) ?_
   rintro v U' D hU ⟨rfl,rfl,rfl⟩
   repeat (first|refine Qc ?_|refine Qa fun _=>?_|refine w_al fun _=>?_)
   by_cases h3:f i=g i
   ·rw [decide_eq_true h3]
    try refine Qb ?_
    exact Qg (E':=[(5,.int .i64 ((i:Int)+1)),(0,.slice px m cx),(1,.slice py m cy)]) (m:=m - (i+1)) ⟨rfl,rfl,rfl,trivial⟩ (by omega)
     ⟨i+1,by omega,(fun j hj=>by
      rcases Nat.lt_or_eq_of_le (Nat.le_of_lt_succ hj) with h | h
      ·exact hall j h
      ·rw [h]; exact h3),rfl,rfl,rfl,rfl⟩
   ·rw [decide_eq_false h3]
    try refine Qb ?_
    exact Qe [] sym rfl (.cons (.tmp rfl) .nil) uc sb (.inl rfl) ⟨false,rfl,⟨(fun h=>by cases h),fun h=>absurd (h.2 i him) h3⟩,rfl,rfl⟩
  ·have e:i=m:=by omega
   subst e
   try refine Qb ?_
   exact Qe [] sym rfl (.cons (.tmp rfl) .nil) uc sb (.inl rfl) ⟨true,rfl,⟨fun _=>⟨rfl,hall⟩,fun _=>rfl⟩,rfl,rfl⟩
theorem Qhh {α β:Type} {ok1:UH→Value→α→Prop} {ok2:UH→Value→β→Prop} {m n:Nat} {vx vy:Value} {f:Nat→α} {g:Nat→β} (z1:α→Int) (z2:β→Int) (h1:∀ U v a,ok1 U v a→v = .int .i64 (z1 a)) (h2:∀ U v a,ok2 U v a→v = .int .i64 (z2 a)) (hx:Ls ok1 1 m U M vx f) (hy:Ls ok2 1 n U M vy g) (hm:m≤1000000000) (hn:n≤1000000000) :
  Ct Tryz.prog 60 [vx,vy] G U M fun v U' D=>∃ b:Bool,v = .bool b∧(b=true↔m=n∧∀ i,i < n→z1 (f i)=z2 (g i))∧U=U'∧D=[]:=by
 obtain ⟨px,cx,xs,rfl,-,rx,ex⟩:=hx
 obtain ⟨py,cy,ys,rfl,-,ry,ey⟩:=hy
 refine Qh Tryz.func60 rfl rfl rfl rfl ?_
 try refine Qb ?_
 refine QK rfl (fun h3=>?_) (fun h3=>?_)
 ·have hne:¬ m=n:=by omega
  try refine Qb ?_
  exact Qe [] sym rfl (.cons (.tmp rfl) .nil) uc sb (.inl rfl) ⟨false,rfl,⟨(fun h=>by cases h),fun h=>absurd h.1 hne⟩,rfl,rfl⟩
 ·have e:m=n:=by omega
  subst e
  try refine Qb ?_
  refine Ql (fun z E U' M'=>∃ i:Nat,i≤m∧(∀ j,j < i→z1 (f j)=z2 (g j))∧E=[(5,.int .i64 (i:Int)),(0,.slice px m cx),(1,.slice py m cy)]∧U=U'∧M=M'∧z=m - i) (n0:=m)
   (E0:=[(5,.int .i64 ((0:Nat):Int)),(0,.slice px m cx),(1,.slice py m cy)]) ⟨rfl,rfl,rfl,trivial⟩ ⟨0,by omega,(fun j h=>absurd h (Nat.not_lt_zero j)),rfl,rfl,rfl,rfl⟩ ?_
  rintro z E U' M' ⟨i,hi,hall,rfl,rfl,rfl,rfl⟩
  try refine Qb ?_
  refine Qi rfl (fun h4=>?_) (fun h4=>?_)
  ·have him:i < m:=by omega
   obtain ⟨v1,hv1⟩:=rx.at him
   obtain rfl:=h1 _ _ _ (ex _ _ hv1)
   obtain ⟨v2,hv2⟩:=ry.at him
   obtain rfl:=h2 _ _ _ (ey _ _ hv2)
   try refine Qb ?_
   refine Qt [0,1,2,3,4,5,6,7,8] sym (by kernel_rfl) ?_
   try refine Qb ?_
   refine sl_y (Qf sym rfl rfl rfl rfl rfl rfl (rx.lt hv1) (rx.get _ _ hv1).1) rfl rfl rfl rfl ?_; refine sl_y (Qk sym rfl rfl rfl rfl rx hv1 rfl) rfl rfl rfl rfl ?_
   try refine Qb ?_
   refine sl_y (Qf sym rfl rfl rfl rfl rfl rfl (ry.lt hv2) (ry.get _ _ hv2).1) rfl rfl rfl rfl ?_; refine sl_y (Qk sym rfl rfl rfl rfl ry hv2 rfl) rfl rfl rfl rfl ?_
   try refine Qb ?_
   refine QK rfl (fun h5=>?_) (fun h5=>?_)
   ·try refine Qb ?_
    exact Qe [] sym rfl (.cons (.tmp rfl) .nil) uc sb (.inl rfl) ⟨false,rfl,⟨(fun h=>by cases h),fun h=>absurd (h.2 i him) h5⟩,rfl,rfl⟩
   ·try refine Qb ?_
    exact Qg (E':=[(5,.int .i64 ((i:Int)+1)),(0,.slice px m cx),(1,.slice py m cy)]) (m:=m - (i+1)) ⟨rfl,rfl,rfl,trivial⟩ (by omega)
     ⟨i+1,by omega,(fun j hj=>by
      rcases Nat.lt_or_eq_of_le (Nat.le_of_lt_succ hj) with h | h
      ·exact hall j h
      ·rw [h]; exact h5),rfl,rfl,rfl,rfl⟩
  ·have e:i=m:=by omega
   subst e
   try refine Qb ?_
   exact Qe [] sym rfl (.cons (.tmp rfl) .nil) uc sb (.inl rfl) ⟨true,rfl,⟨fun _=>⟨rfl,hall⟩,fun _=>rfl⟩,rfl,rfl⟩
end Go.Proofs.YthnnlgjlhnmhnaaGreat

/- Walks of the helpers of layer 9's statements: are matrices small? -/
namespace Go.Proofs.YthnnlgjlhnmhnaaGreat
open Go.Hp
variable {G:World} {U U':UH} {M M':MH}
def Xq (U:UH) (v:Value) (q:Rat):Prop:=∃ x:QV,v=x.v∧x.rep U [] q
structure Raw (U:UH) (v:Value) (r c:Int) (n:Nat) (f:Nat→Rat):Prop where
 rows : -9223372036854775808≤r∧r≤9223372036854775807
 cols : -9223372036854775808≤c∧c≤9223372036854775807
 num:n≤9223372036854775807
 elt:∃ a,v = .agg #[.int .i64 r,.int .i64 c,a]∧Ls Xq 4 n U [] a f
def Lit (most:Nat) (U:UH) (v:Value) (r c:Int) (n:Nat) (f:Nat→Rat):Prop :=
 n≤most*most∧(Vld r c n→r≤most∧c≤most)∧∃ a,v = .agg #[.int .i64 r,.int .i64 c,a]∧Ls (Wq 1) 4 n U [] a f
end Go.Proofs.YthnnlgjlhnmhnaaGreat

/- Walks of the helpers of layer 9's statements: awake. -/
namespace Go.Proofs.YthnnlgjlhnmhnaaGreat
open Go.Hp
variable {G:World} {U U':UH} {M M':MH}
theorem vd {s:Nat} {vs:List Value} (h:vs.all (fun v=>Nat.beq v.cells.toList.length s)=true):∀ v ∈ vs,v.cells.toList.length=s:=fun v hv=>Nat.eq_of_beq_eq_true (List.all_eq_true.1 h v hv)
theorem QhC {b e n:Nat} {l:List Int} (hr:∀ z ∈ l,-9223372036854775808≤z∧z≤9223372036854775807) (hn:l.length=n) (hn2:n≤1000) (hM:[(b,.arr (l.map fun z => .int .i64 z),e)].Sublist M):Ls Vz 1 n U M (.slice (some ⟨b,0,none⟩) n n) (fun j=>l.getD j 0):=by
 refine ⟨_,_,l.map fun z => .int .i64 z,rfl,Nat.le_refl n,(RowO.mk (e:=e) (b:=b) (by rw [List.length_map,hn]) (fun v hv=>?_) (by omega)).at hM,fun k x hk=>?_⟩
 ·obtain ⟨z,-,rfl⟩:=List.mem_map.1 hv; rfl
 ·rw [List.getElem?_map] at hk
  obtain ⟨z,hz,rfl⟩:=Option.map_eq_some_iff.1 hk
  have:=hr z (List.mem_of_getElem? hz)
  simp only [List.getD_eq_getElem?_getD,hz,Option.getD_some]
  exact ⟨rfl,this⟩
end Go.Proofs.YthnnlgjlhnmhnaaGreat
