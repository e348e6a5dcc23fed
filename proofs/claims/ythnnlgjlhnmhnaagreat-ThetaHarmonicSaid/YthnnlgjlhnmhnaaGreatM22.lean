/- Texts of this seat's own, merged: each begins with its own remark. -/
import Derived.Test.YthnnlgjlhnmhnaaGreatM21
import Derived.Test.YthnnlgjlhnmhnaaGreatM14
/- Walks of matrix: is it valid; grids of the call's own. -/
namespace Go.Proofs.YthnnlgjlhnmhnaaGreat
open Go.Hp
variable {G:World} {U:UH} {M:MH}
theorem QdQ {n:Int} :
  Ct Tryz.prog 147 [.int .i64 n] G U M fun v U' D=>v = .bool (decide (0≤n∧n≤1024))∧U=U'∧D=[]:=by
 refine Qh Tryz.func147 rfl rfl rfl rfl ?_
 repeat (first|refine Qc ?_|refine Qa fun _=>?_|refine w_al fun _=>?_)
 refine Qw rfl rfl (fun h=>?_) (fun h=>?_)
 ·repeat (first|refine Qc ?_|refine Qa fun _=>?_|refine w_al fun _=>?_)
  refine Qe [] sym rfl (.cons (.tmp rfl) .nil) uc sb (.inl rfl) ⟨?_,rfl,rfl⟩
  show Value.bool (dec (n≤1024))=_
  rw [Jj]
  exact congrArg Value.bool (decide_eq_decide.2 ⟨fun h1=>⟨h,h1⟩,fun h1=>h1.2⟩)
 ·repeat (first|refine Qc ?_|refine Qa fun _=>?_|refine w_al fun _=>?_)
  exact Qe [] sym rfl (.cons (.tmp rfl) .nil) uc sb (.inl rfl) ⟨VX (fun h1=>h h1.1),rfl,rfl⟩
def Vld (r c:Int) (n:Nat):Prop:=0≤r∧r≤1024∧0≤c∧c≤1024∧(n:Int)=r*c
instance (r c:Int) (n:Nat):Decidable (Vld r c n):=by unfold Vld; infer_instance
theorem Qha {r c:Int} (h1:0≤r) (h2:r≤1024) (h3:0≤c) (h4:c≤1024):0≤r*c∧r*c≤1048576 :=
 ⟨Int.mul_nonneg h1 h3,Int.le_trans (Int.mul_le_mul_of_nonneg_right h2 h3) (Int.mul_le_mul_of_nonneg_left h4 (by decide))⟩
theorem Qec {r c:Int} {p:Option Addr} {n cc:Nat} (_:n≤9223372036854775807) :
  Ct Tryz.prog 125 [.agg #[.int .i64 r,.int .i64 c,.slice p n cc]] G U M fun v U' D=>v = .bool (decide (Vld r c n))∧U=U'∧D=[]:=by
 refine Qh Tryz.func125 rfl rfl rfl rfl ?_
 repeat (first|refine Qc ?_|refine Qa fun _=>?_|refine w_al fun _=>?_)
 refine Qd rfl rfl rfl rfl rfl rfl (fun _=>QdQ (n:=r)) ?_
 rintro v U' D hU ⟨rfl,rfl,rfl⟩
 repeat (first|refine Qc ?_|refine Qa fun _=>?_|refine w_al fun _=>?_)
 by_cases h1:0≤r∧r≤1024
 ·rw [decide_eq_true h1]
  repeat (first|refine Qc ?_|refine Qa fun _=>?_|refine w_al fun _=>?_)
  refine Qd rfl rfl rfl rfl rfl rfl (fun _=>QdQ (n:=c)) ?_
  rintro v U' D hU ⟨rfl,rfl,rfl⟩
  repeat (first|refine Qc ?_|refine Qa fun _=>?_|refine w_al fun _=>?_)
  by_cases h2:0≤c∧c≤1024
  ·have h3:=Qha h1.1 h1.2 h2.1 h2.2
   rw [decide_eq_true h2]
   repeat (first|refine Qc ?_|refine Qa fun _=>?_|refine w_al fun _=>?_)
   refine Qe [] sym rfl (.cons (.tmp rfl) .nil) uc sb (.inl rfl) ⟨?_,rfl,rfl⟩
   show Value.bool (dec ((n:Int)=r*c))=_
   rw [Jj]
   exact congrArg Value.bool (decide_eq_decide.2 ⟨fun h=>⟨h1.1,h1.2,h2.1,h2.2,h⟩,fun h=>h.2.2.2.2⟩)
  ·rw [decide_eq_false h2]
   repeat (first|refine Qc ?_|refine Qa fun _=>?_|refine w_al fun _=>?_)
   exact Qe [] sym rfl (.cons (.tmp rfl) .nil) uc sb (.inl rfl) ⟨VX (fun h=>h2 ⟨h.2.2.1,h.2.2.2.1⟩),rfl,rfl⟩
 ·rw [decide_eq_false h1]
  repeat (first|refine Qc ?_|refine Qa fun _=>?_|refine w_al fun _=>?_)
  exact Qe [] sym rfl (.cons (.tmp rfl) .nil) uc sb (.inl rfl) ⟨VX (fun h=>h1 ⟨h.1,h.2.1⟩),rfl,rfl⟩
theorem vG {r c:Int} {p:Option Addr} {n cc:Nat} (hn:n≤9223372036854775807) :
  Ct Tryz.prog 90 [.agg #[.int .i64 r,.int .i64 c,.slice p n cc]] G U M fun v U' D=>v = .bool (decide (Vld r c n∧r=c))∧U=U'∧D=[]:=by
 refine Qh Tryz.func90 rfl rfl rfl rfl ?_
 repeat (first|refine Qc ?_|refine Qa fun _=>?_|refine w_al fun _=>?_)
 refine Qd rfl rfl rfl rfl rfl rfl (fun _=>Qec (r:=r) (c:=c) (p:=p) (cc:=cc) hn) ?_
 rintro v U' D hU ⟨rfl,rfl,rfl⟩
 repeat (first|refine Qc ?_|refine Qa fun _=>?_|refine w_al fun _=>?_)
 by_cases h1:Vld r c n
 ·rw [decide_eq_true h1]
  repeat (first|refine Qc ?_|refine Qa fun _=>?_|refine w_al fun _=>?_)
  refine Qe [] sym rfl (.cons (.tmp rfl) .nil) uc sb (.inl rfl) ⟨?_,rfl,rfl⟩
  show Value.bool (dec (r=c))=_
  rw [Jj]
  exact congrArg Value.bool (decide_eq_decide.2 ⟨fun h=>⟨h1,h⟩,fun h=>h.2⟩)
 ·rw [decide_eq_false h1]
  repeat (first|refine Qc ?_|refine Qa fun _=>?_|refine w_al fun _=>?_)
  exact Qe [] sym rfl (.cons (.tmp rfl) .nil) uc sb (.inl rfl) ⟨VX (fun h=>h1 h.1),rfl,rfl⟩
theorem Yd {x:QV} {q:Rat} (hx:x.rep U M q) (hn:x.le 274877906944) :
  Ct Tryz.prog 94 [x.v] G U M fun v U' D=>v = .bool (decide (q≠0))∧U=U'∧D=[]:=by
 refine Qh Tryz.func94 rfl rfl rfl rfl ?_
 repeat (first|refine Qc ?_|refine Qa fun _=>?_|refine w_al fun _=>?_)
 refine Qd rfl rfl rfl rfl rfl rfl (fun _=>Va (hx.up uc sb) hn) ?_
 rintro v U' D hU ⟨rfl,rfl,rfl⟩
 repeat (first|refine Qc ?_|refine Qa fun _=>?_|refine w_al fun _=>?_)
 refine Qe [] sym rfl (.cons (.tmp rfl) .nil) uc sb (.inl rfl) ⟨?_,rfl,rfl⟩
 show Value.bool (dec (q.num.sign≠0))=_
 rw [Jj]
 exact congrArg Value.bool (decide_eq_decide.2 ⟨fun h e=>h (by rw [e]; rfl),fun h e=>h (js.1 (Int.sign_eq_zero_iff_zero.1 e))⟩)
end Go.Proofs.YthnnlgjlhnmhnaaGreat

/- Walks of matrix: grids are made, and laid down as matrices. -/
namespace Go.Proofs.YthnnlgjlhnmhnaaGreat
open Go.Hp
variable {G:World} {U U':UH} {M:MH}
def ElTo {α:Type} (ok:UH→Value→α→Prop) (U:UH) (j:Nat) (vs:List Value) (g:Nat→α):Prop:=∀ k x,k < j→vs[k]?=some x→ok U x (g k)
theorem ElTo.up {α:Type} {ok:UH→Value→α→Prop} {j:Nat} {vs:List Value} {g:Nat→α} (h:ElTo ok U j vs g) (hok:Kept ok) (hU:ULe U U'):ElTo ok U' j vs g:=fun k x hk hx=>hok _ _ _ _ hU (h k x hk hx)
theorem ElTo.next {α:Type} {ok:UH→Value→α→Prop} {j:Nat} {vs:List Value} {g:Nat→α} {x:Value} (h:ElTo ok U j vs g) (hx:ok U x (g j)):ElTo ok U (j+1) (vs.set j x) g:=fun k y hk hy=>by
 rw [List.getElem?_set] at hy
 by_cases e:j=k
 ·subst e
  rw [if_pos rfl] at hy
  split at hy
  ·cases hy; exact hx
  ·cases hy
 ·rw [if_neg e] at hy; exact h k y (by omega) hy
theorem ElTo.all {α:Type} {ok:UH→Value→α→Prop} {n:Nat} {vs:List Value} {g:Nat→α} (h:ElTo ok U n vs g) (hl:vs.length=n):El ok U vs g:=fun k x hk=>h k x (by rw [← hl]; exact (List.getElem?_eq_some_iff.1 hk).1) hk
theorem Jk {e s b n:Nat} {z:Value} (hz:z.cells.toList.length=s) (hm:n≤9223372036854775807):RowO e s [(b,.arr (List.replicate n z),e)] (some ⟨b,0,none⟩) n n (List.replicate n z) :=
 RowO.mk (List.length_replicate ..) (fun v hv=>by rw [(List.mem_replicate.1 hv).2]; exact hz) hm
theorem Qek {n:Nat} (hn:n≤1000000000) :
  Ct Tryz.prog 150 [.int .i64 (n:Int)] G U M fun v U' D=>Lo Vq TR 4 n U' D v (fun _=>(0:Rat))∧ULe U U':=by
 refine Qh Tryz.func150 rfl rfl rfl rfl ?_
 repeat (first|refine Qc ?_|refine Qa fun _=>?_|refine w_al fun _=>?_)
 refine QQ (m:=n) (n:=n) sym rfl rfl rfl rfl rfl rfl rfl rfl rfl (Nat.le_refl n) (by omega) (by omega) rfl rfl rfl rfl (fun b=>?_)
 have hrow:=Jk (e:=TR) (s:=4) (b:=b) (n:=n) (z:=zeroQV.v) rfl (by omega)
 try refine Qb ?_
 refine Ql (fun z E U' M'=>∃ (i:Nat) (vs:List Value) (D:MH),i≤n∧RowO TR 4 D (some ⟨b,0,none⟩) n n vs∧ElTo Vq U' i vs (fun _=>(0:Rat))∧E=[(9,.int .i64 (i:Int)),(3,.slice (some ⟨b,0,none⟩) n n),(8,.int .i64 (n:Int))]∧ULe U U'∧M'=D++M∧z=n - i) (n0:=n)
  (E0:=[(9,.int .i64 ((0:Nat):Int)),(3,.slice (some ⟨b,0,none⟩) n n),(8,.int .i64 (n:Int))]) ⟨rfl,rfl,rfl,trivial⟩ ⟨0,_,_,by omega,hrow,(fun k x hk=>absurd hk (Nat.not_lt_zero k)),rfl,uc,rfl,rfl⟩ ?_
 clear hrow
 rintro z E U' M' ⟨i,vs,D,hi,hrow,hel,rfl,hU,rfl,rfl⟩
 try refine Qb ?_
 refine Qi rfl (fun h=>?_) (fun h=>?_)
 ·have hin:i < n:=by omega
  try refine Qb ?_
  refine Qd rfl rfl rfl rfl rfl rfl (fun _=>(VU (z:=0) (by decide) (by decide)).settle) ?_
  rintro v Uh1 D hU ⟨rfl,_,_,⟨xh1,rfl,h1,-⟩,-,-,hs⟩
  replace h1:=h1.sett hs
  clear hs
  repeat (first|refine Qc ?_|refine Qa fun _=>?_|refine w_al fun _=>?_)
  refine QB (j:=i) hin rfl ?_
  refine QG (v:=xh1.v) hrow (List.Perm.refl _) hin (fun D2 hr2=>?_)
  try refine Qb ?_
  exact Qg (E':=[(9,.int .i64 ((i:Int)+1)),(3,.slice (some ⟨b,0,none⟩) n n),(8,.int .i64 (n:Int))]) (m:=n - (i+1)) ⟨rfl,rfl,rfl,trivial⟩ (by omega)
   ⟨i+1,_,D2,by omega,hr2,(hel.up QF uc).next ⟨xh1,rfl,h1⟩,rfl,uc,rfl,rfl⟩
 ·have e:i=n:=by omega
  subst e
  try refine Qb ?_
  exact Qe D sym rfl (.cons (.tmp rfl) .nil) uc sb (.inl rfl) ⟨⟨_,_,vs,rfl,hrow,hel.all hrow.len.1⟩,uc⟩
theorem QbM {r c b:Nat} {vm:Value} {A:Nat→Nat→Rat} (hm:Vm (Wq b) r c U vm A) (hb:b≤10000000000) (hr:r≤100000) (hc:c≤100000) (hrc:r*c≤100000000) :
  Ct Tryz.prog 91 [vm] G U M fun v U' D=>Go rO r c U' D v A∧ULe U U':=by
 obtain ⟨_,rfl,p,cc,as1,rfl,-,rw1,el⟩:=hm
 refine Qh Tryz.func91 rfl rfl rfl rfl ?_
 repeat (first|refine Qc ?_|refine Qa fun _=>?_|refine w_al fun _=>?_)
 rename_i b1
 refine QQ (m:=r) (n:=r) sym rfl rfl rfl rfl rfl rfl rfl rfl rfl (Nat.le_refl r) (by omega) (by omega) rfl rfl rfl rfl (fun b2=>?_)
 have hrow:=Jk (e:=TRs) (s:=1) (b:=b2) (n:=r) (z := .slice none 0 0) rfl (by omega)
 try refine Qb ?_
 refine Yu (M':=(b1,.var (.agg #[.int .i64 (r:Int),.int .i64 (c:Int),.slice p (r*c) cc]),TM)::([(b2,.arr (List.replicate r (.slice none 0 0)),TRs)]++M)) pm ?_
 refine Ql (fun z E U' M'=>∃ (i:Nat) (svs:List Value) (D:MH) (F:List MH),i≤r∧RowO TRs 1 D (some ⟨b2,0,none⟩) r r svs∧Gs rO c U' (svs.take i) F A∧E=[(11,.int .i64 (i:Int)),(3,.slice (some ⟨b2,0,none⟩) r r),(10,.int .i64 (r:Int)),(1,.pointer (some ⟨b1,0,none⟩))]∧ULe U U' ∧
   M'=(b1,.var (.agg #[.int .i64 (r:Int),.int .i64 (c:Int),.slice p (r*c) cc]),TM)::(D++(F.flatten++M))∧z=r - i) (n0:=r)
  (E0:=[(11,.int .i64 ((0:Nat):Int)),(3,.slice (some ⟨b2,0,none⟩) r r),(10,.int .i64 (r:Int)),(1,.pointer (some ⟨b1,0,none⟩))]) ⟨rfl,rfl,rfl,rfl,trivial⟩ ⟨0,_,[(b2,_,_)],[],by omega,hrow,Gs.nil,rfl,uc,rfl,rfl⟩ ?_
 clear hrow
 rintro z E U1 M' ⟨i,svs,D,F,hi,hrow,hg,rfl,hU1,rfl,rfl⟩
 try refine Qb ?_
 refine Qi rfl (fun h=>?_) (fun h=>?_)
 ·have hir:i < r:=by omega
  try refine Qb ?_
  refine QQ (m:=c) (n:=c) sym rfl rfl rfl rfl rfl rfl rfl rfl rfl (Nat.le_refl c) (by omega) (by omega) rfl rfl rfl rfl (fun b3=>?_)
  have hrow2:=Jk (e:=TR) (s:=4) (b:=b3) (n:=c) (z := .agg #[.bool false,.slice none 0 0,.bool false,.slice none 0 0]) rfl (by omega)
  refine QB (j:=i) hir rfl ?_
  refine QG (X:=(b3,.arr (List.replicate c (.agg #[.bool false,.slice none 0 0,.bool false,.slice none 0 0])),TR)::(b1,.var (.agg #[.int .i64 (r:Int),.int .i64 (c:Int),.slice p (r*c) cc]),TM)::(F.flatten++M)) hrow pm hir (fun D2 hr2=>?_)
  refine Qj (M':=(b1,.var (.agg #[.int .i64 (r:Int),.int .i64 (c:Int),.slice p (r*c) cc]),TM)::([(b3,.arr (List.replicate c (.agg #[.bool false,.slice none 0 0,.bool false,.slice none 0 0])),TR)]++(D2++(F.flatten++M)))) ?_ pm
  have hsl:=hrow.len.1
  have hvi:(svs.set i (.slice (some ⟨b3,0,none⟩) c c))[i]?=some (.slice (some ⟨b3,0,none⟩) c c):=List.getElem?_set_self (by omega)
  have hgi:Gs rO c U1 ((svs.set i (.slice (some ⟨b3,0,none⟩) c c)).take i) F A:=by rw [List.take_set_of_le (Nat.le_refl i)]; exact hg
  generalize svs.set i (.slice (some ⟨b3,0,none⟩) c c)=sv2 at hr2 hvi hgi
  clear hrow hg hsl
  try refine Qb ?_
  have rO:=hr2.at (U:=U1) (M:=(b1,.var (.agg #[.int .i64 (r:Int),.int .i64 (c:Int),.slice p (r*c) cc]),TM)::([(b3,.arr (List.replicate c (.agg #[.bool false,.slice none 0 0,.bool false,.slice none 0 0])),TR)]++(D2++(F.flatten++M)))) sb
  refine sl_y (Qf sym rfl rfl rfl rfl rfl rfl (rO.lt hvi) (rO.get _ _ hvi).1) rfl rfl rfl rfl ?_; refine sl_y (Qk sym rfl rfl rfl rfl rO hvi rfl) rfl rfl rfl rfl ?_
  try refine Qb ?_
  refine Ql (fun z E U' M'=>∃ (j:Nat) (us:List Value) (Dr:MH),j≤c∧RowO TR 4 Dr (some ⟨b3,0,none⟩) c c us∧ElTo Vq U' j us (A i)∧E=[(25,.int .i64 (j:Int)),(24,.int .i64 (c:Int)),(4,.int .i64 (i:Int)),(11,.int .i64 (i:Int)),(3,.slice (some ⟨b2,0,none⟩) r r),(10,.int .i64 (r:Int)),(1,.pointer (some ⟨b1,0,none⟩))]∧ULe U1 U' ∧
    M'=(b1,.var (.agg #[.int .i64 (r:Int),.int .i64 (c:Int),.slice p (r*c) cc]),TM)::(Dr++(D2++(F.flatten++M)))∧z=c - j) (n0:=c)
   (E0:=[(25,.int .i64 ((0:Nat):Int)),(24,.int .i64 (c:Int)),(4,.int .i64 (i:Int)),(11,.int .i64 (i:Int)),(3,.slice (some ⟨b2,0,none⟩) r r),(10,.int .i64 (r:Int)),(1,.pointer (some ⟨b1,0,none⟩))]) ⟨rfl,rfl,rfl,rfl,rfl,rfl,rfl,trivial⟩ ⟨0,_,_,by omega,hrow2,(fun k x hk=>absurd hk (Nat.not_lt_zero k)),rfl,uc,rfl,rfl⟩ ?_
  clear hrow2
  rintro z E U2 M' ⟨j,us,Dr,hj,hrow,hel,rfl,hU2,rfl,rfl⟩
  try refine Qb ?_
  refine Qi rfl (fun h2=>?_) (fun h2=>?_)
  ·have hjc:j < c:=by omega
   have hlt:=Ym hir hjc
   obtain ⟨v1,hv1⟩:=rw1.at hlt
   obtain ⟨x1,rfl,hx1,hn1⟩:=el _ _ hv1
   rw [QdZ hjc] at hx1
   try refine Qb ?_
   refine Qx [16,17] [0,1,2,3,4,5,6,7,8,9,10,11,12,13,14,15,16,17] sym (by kernel_rfl) ?_
   try refine Qb ?_
   have rO:=hr2.at (U:=U2) (M:=(b1,.var (.agg #[.int .i64 (r:Int),.int .i64 (c:Int),.slice p (r*c) cc]),TM)::(Dr++(D2++(F.flatten++M)))) sb
   refine sl_y (Qf sym rfl rfl rfl rfl rfl rfl (rO.lt hvi) (rO.get _ _ hvi).1) rfl rfl rfl rfl ?_; refine sl_y (Qk sym rfl rfl rfl rfl rO hvi rfl) rfl rfl rfl rfl ?_
   try refine Qb ?_
   refine sl_y (Qf sym rfl rfl rfl rfl rfl ( by omega) ((rw1.up uc sb).lt hv1) ((rw1.up uc sb).get _ _ hv1).1) rfl rfl rfl rfl ?_; refine sl_y (Qp sym rfl rfl rfl rfl rfl (rw1.up uc sb) hv1) rfl rfl rfl rfl ?_
   try refine Qb ?_
   refine Qd rfl rfl rfl rfl rfl rfl (fun _=>(Ys (hx1.up uc sb) (by omega)).settle) ?_
   rintro v Uh3 D hU ⟨rfl,_,_,⟨xh3,rfl,h3,-⟩,-,-,hs⟩
   replace h3:=h3.sett hs
   clear hs
   repeat (first|refine Qc ?_|refine Qa fun _=>?_|refine w_al fun _=>?_)
   refine QB (j:=j) hjc rfl ?_
   refine QG (v:=xh3.v) (X:=(b1,.var (.agg #[.int .i64 (r:Int),.int .i64 (c:Int),.slice p (r*c) cc]),TM)::(D2++(F.flatten++M))) hrow pm hjc (fun D4 hr4=>?_)
   refine Qj ?_ perm1
   try refine Qb ?_
   exact Qg (E':=[(25,.int .i64 ((j:Int)+1)),(24,.int .i64 (c:Int)),(4,.int .i64 (i:Int)),(11,.int .i64 (i:Int)),(3,.slice (some ⟨b2,0,none⟩) r r),(10,.int .i64 (r:Int)),(1,.pointer (some ⟨b1,0,none⟩))]) (m:=c - (j+1)) ⟨rfl,rfl,rfl,rfl,rfl,rfl,rfl,trivial⟩ (by omega)
    ⟨j+1,_,D4,by omega,hr4,(hel.up QF uc).next ⟨xh3,rfl,h3⟩,rfl,uc,rfl,rfl⟩
  ·have e:j=c:=by omega
   subst e
   try refine Qb ?_
   refine Jw (M':=(b1,.var (.agg #[.int .i64 (r:Int),.int .i64 (j:Int),.slice p (r*j) cc]),TM)::(D2++((F++[Dr]).flatten++M))) pm ?_
   exact Qg (E':=[(11,.int .i64 ((i:Int)+1)),(3,.slice (some ⟨b2,0,none⟩) r r),(10,.int .i64 (r:Int)),(1,.pointer (some ⟨b1,0,none⟩))]) (m:=r - (i+1)) ⟨rfl,rfl,rfl,rfl,trivial⟩ (by omega)
    ⟨i+1,sv2,D2,F++[Dr],by omega,hr2,by
     rw [List.take_add_one,hvi]
     exact (hgi.up uc).snoc (by rw [List.length_take,hr2.len.1]; omega) (Nat.le_refl _) hrow (hel.all hrow.len.1),rfl,uc,rfl,rfl⟩
 ·have e:i=r:=by omega
  subst e
  try refine Qb ?_
  rw [List.take_of_length_le (by rw [hrow.len.1]; exact Nat.le_refl _)] at hg
  exact Qe (D++F.flatten) sym rfl (.cons (.tmp rfl) .nil) uc sb (.inl rfl) ⟨⟨D,F,_,_,svs,rfl,rfl,hrow,hg⟩,uc⟩
end Go.Proofs.YthnnlgjlhnmhnaaGreat

/- Walks of matrix: grids are read; rows are added to rows, and divided. -/
namespace Go.Proofs.YthnnlgjlhnmhnaaGreat
open Go.Hp
variable {G:World} {U U':UH} {M M':MH}
def Vrm (M:MH) (c:Nat) (U:UH) (v:Value) (g:Nat→Rat):Prop:=Ls Vq 4 c U M v g
def Lg (r c:Nat) (U:UH) (M:MH) (v:Value) (A:Nat→Nat→Rat):Prop:=Ls (Vrm M c) 1 r U M v A
theorem Lg.up {r c:Nat} {v:Value} {A:Nat→Nat→Rat} (h:Lg r c U M v A) (hU:ULe U U') (hM:M.Sublist M'):Lg r c U' M' v A:=by
 obtain ⟨p,cc,vs,h1,h0,h2,h3⟩:=h
 exact ⟨p,cc,vs,h1,h0,h2.up hU hM,fun k x hk=>Ls.up (h3 k x hk) QF hU hM⟩
theorem Gs.lg {r c cc:Nat} {p:Option Addr} {svs:List Value} {Do:MH} {F:List MH} {A:Nat→Nat→Rat} (ho:RowO TRs 1 Do p r cc svs) (hg:Gs rW c U svs F A) (hM:(Do++F.flatten).Sublist M):Lg r c U M (.slice p r cc) A:=by
 refine ⟨p,cc,svs,rfl,ho.len.2.1,ho.at ((List.sublist_append_left ..).trans hM),fun k x hk=>?_⟩
 have hF:k < F.length:=by rw [← hg.1]; exact (List.getElem?_eq_some_iff.1 hk).1
 obtain ⟨q,c',vs,rfl,h3,h4,h5⟩:=hg.2 k x _ hk (List.getElem?_eq_getElem hF)
 exact ⟨q,c',vs,rfl,h3,h4.at ((List.sublist_flatten_of_mem (List.getElem_mem hF)).trans ((List.sublist_append_right ..).trans hM)),h5⟩
theorem Go.lg {r c:Nat} {D:MH} {v:Value} {A:Nat→Nat→Rat} (h:Go rW r c U D v A) (hM:D.Sublist M):Lg r c U M v A:=by
 obtain ⟨Do,F,p,cc,svs,rfl,rfl,h1,h2⟩:=h
 exact Gs.lg h1 h2 hM
theorem Go.w {r c:Nat} {D:MH} {v:Value} {A:Nat→Nat→Rat} (h:Go rO r c U D v A):Go rW r c U D v A:=by
 obtain ⟨Do,F,p,cc,svs,rfl,rfl,h1,h2⟩:=h
 exact ⟨Do,F,p,cc,svs,rfl,rfl,h1,h2.w⟩
theorem Gs.put {R:MH→Option Addr→Nat→Nat→List Value→Prop} {c i:Nat} {svs:List Value} {F:List MH} {A:Nat→Nat→Rat} (h:Gs R c U svs F A) (hi:i < svs.length) :
  ∃ q c' vs D,svs[i]?=some (.slice q c c')∧F[i]?=some D∧c≤c'∧R D q c c' vs∧El Vq U vs (A i)∧i < F.length ∧
   ∀ (U':UH) (D':MH) (vs':List Value) (A':Nat→Nat→Rat),ULe U U'→R D' q c c' vs'→El Vq U' vs' (A' i)→(∀ k,k≠i→A' k=A k)→Gs R c U' svs (F.set i D') A':=by
 have hF:i < F.length:=by rw [← h.1]; exact hi
 have h1:=List.getElem?_eq_getElem hi
 have h2:=List.getElem?_eq_getElem hF
 generalize svs[i]=x at h1
 generalize F[i]=D at h2
 obtain ⟨q,c',vs,rfl,h3,h4,h5⟩:=h.2 i x D h1 h2
 refine ⟨q,c',vs,D,h1,h2,h3,h4,h5,hF,fun U' D' vs' A' hU hR hel hA=>⟨by rw [List.length_set]; exact h.1,fun k y E hk hE=>?_⟩⟩
 by_cases e:k=i
 ·subst e
  rw [List.getElem?_set_self hF] at hE
  cases hE
  rw [h1] at hk
  cases hk
  exact ⟨q,c',vs',rfl,h3,hR,hel⟩
 ·rw [List.getElem?_set_ne (Ne.symm e)] at hE
  obtain ⟨q,c',vs,rfl,h3,h4,h5⟩:=h.2 k y E hk hE
  exact ⟨q,c',vs,rfl,h3,h4,by rw [hA k e]; exact h5.up QF hU⟩
theorem Qeu {r c:Nat} {vg:Value} {A:Nat→Nat→Rat} (hg:Lg r c U M vg A) (hr:r≤100000) (_:c≤100000) (hrc:r*c≤100000000) :
  Ct Tryz.prog 102 [.int .i64 (c:Int),vg] G U M fun v U' D=>Vmo r c U' D v A∧ULe U U':=by
 obtain ⟨p,cc,svs,rfl,-,rw1,el⟩:=hg
 refine Qh Tryz.func102 rfl rfl rfl rfl ?_
 repeat (first|refine Qc ?_|refine Qa fun _=>?_|refine w_al fun _=>?_)
 rename_i b4 b5
 refine Ql (fun z E U' M'=>∃ (i:Nat) (P:Option Addr) (C:Nat) (vs:List Value) (D:MH),i≤r∧RowO TR 4 D P (i*c) C vs∧El Vq U' vs (fl c A)∧E=[(14,.int .i64 (i:Int)),(12,.slice p r cc),(13,.int .i64 (r:Int)),(4,.pointer (some ⟨b4,0,none⟩)),(5,.pointer (some ⟨b5,0,none⟩))]∧U=U' ∧
   M'=(b5,.var (.agg #[.int .i64 (r:Int),.int .i64 (c:Int),.slice P (i*c) C]),TM)::(b4,.var (.agg #[.int .i64 0,.int .i64 0,.slice none 0 0]),TM)::(D++M)∧z=r - i) (n0:=r)
  (E0:=[(14,.int .i64 ((0:Nat):Int)),(12,.slice p r cc),(13,.int .i64 (r:Int)),(4,.pointer (some ⟨b4,0,none⟩)),(5,.pointer (some ⟨b5,0,none⟩))]) ⟨rfl,rfl,rfl,rfl,rfl,trivial⟩ ⟨0,none,0,[],[],by omega,by rw [Nat.zero_mul]; exact RowO.nil,El.nil,rfl,rfl,by rw [Nat.zero_mul]; rfl,rfl⟩ ?_
 rintro z E U1 M' ⟨i,P,C,vs,D,hi,hrow,hel,rfl,rfl,rfl,rfl⟩
 try refine Qb ?_
 refine Qi rfl (fun h=>?_) (fun h=>?_)
 ·have hir:i < r:=by omega
  have hlt:i*c+c≤r*c:=by
   have:=Nat.mul_le_mul_right c (show i+1≤r by omega)
   rwa [Nat.add_mul,Nat.one_mul] at this
  obtain ⟨v1,hv1⟩:=rw1.at hir
  obtain ⟨p2,c2,us,rfl,-,rw2,el2⟩:=el _ _ hv1
  try refine Qb ?_
  refine sl_y (Qf sym rfl rfl rfl rfl rfl rfl ((rw1.up uc sb).lt hv1) ((rw1.up uc sb).get _ _ hv1).1) rfl rfl rfl rfl ?_; refine sl_y (Qk sym rfl rfl rfl rfl (rw1.up uc sb) hv1 rfl) rfl rfl rfl rfl ?_
  try refine Qb ?_
  refine Qik (X:=(b5,.var (.agg #[.int .i64 (r:Int),.int .i64 (c:Int),.slice P (i*c) C]),TM)::(b4,.var (.agg #[.int .i64 0,.int .i64 0,.slice none 0 0]),TM)::M) hrow pm (rw2.up uc sb) (El.ones el2 fun _ _ h=>QfA h) (fun p3 c3 D3 hr3=>?_)
  refine Qj ?_ (perm2 (D:=D3))
  try refine Qb ?_
  refine Vx 0 sym rfl rfl rfl rfl rfl rfl rfl rfl rfl rfl rfl ?_
  try refine Qb ?_
  have e2:i*c+c=(i+1)*c:=by rw [Nat.add_mul,Nat.one_mul]
  rw [e2] at hr3 ⊢
  exact Qg (E':=[(14,.int .i64 ((i:Int)+1)),(12,.slice p r cc),(13,.int .i64 (r:Int)),(4,.pointer (some ⟨b4,0,none⟩)),(5,.pointer (some ⟨b5,0,none⟩))]) (m:=r - (i+1)) ⟨rfl,rfl,rfl,rfl,rfl,trivial⟩ (by omega)
   ⟨i+1,p3,c3,_,D3,by omega,hr3,Qgr hrow.len.1 hel (fun k x hk=>by rw [QdZ (rw2.lt hk)]; exact el2 k x hk),rfl,rfl,rfl,rfl⟩
 ·have e:i=r:=by omega
  subst e
  repeat (first|refine Qc ?_|refine Qa fun _=>?_|refine w_al fun _=>?_)
  exact Qe D sym rfl (.cons (.cell 1 rfl rfl rfl) .nil) uc sb (.inl rfl) ⟨⟨_,rfl,P,C,vs,rfl,hrow,hel⟩,uc⟩
end Go.Proofs.YthnnlgjlhnmhnaaGreat

/- Walks of matrix: a multiple of a row is added; a row is divided. -/
namespace Go.Proofs.YthnnlgjlhnmhnaaGreat
open Go.Hp
variable {G:World} {U U':UH} {M M':MH}
theorem QbJ {n b fr:Nat} {pa:Option Addr} {ca:Nat} {vas:List Value} {Da X:MH} {vb:Value} {f g:Nat→Rat} {xf:QV} {q:Rat} (ha:RowW TR 4 Da pa n vas) (ea:El Vq U vas f) (hb:Ls Vq 4 n U X vb g) (hq:xf.rep U [] q) (hql:xf.le b) (hfr:fr≤n)
  (sf:∀ j,j < n→Szq (f j) b) (sg:∀ j,j < n→Szq (g j) b) (sq:Szq q b) (hb2:b≤10000000000) (hn:n≤1000000) :
  Cx Tryz.prog 131 [.slice pa n ca,vb,xf.v,.int .i64 (fr:Int)] G U (Da++X) fun _ U' M'=>ULe U U'∧∃ Da' vas',M'=Da'++X∧RowW TR 4 Da' pa n vas'∧El Vq U' vas' (fun j=>if fr≤j then f j+q*g j else f j):=by
 obtain ⟨pb,cb,vbs,rfl,-,rb,eb⟩:=hb
 refine JX Tryz.func131 rfl rfl rfl rfl ?_
 repeat (first|refine Qc ?_|refine Qa fun _=>?_|refine w_al fun _=>?_)
 rename_i b6
 refine Ql (fun z E U' M'=>∃ (j:Nat) (vs:List Value) (D:MH),fr≤j∧j≤n∧RowW TR 4 D pa n vs∧El Vq U' vs (fun t=>if fr≤t∧t < j then f t+q*g t else f t)∧E=[(8,.int .i64 (j:Int)),(0,.slice pa n ca),(1,.slice pb n cb),(6,.pointer (some ⟨b6,0,none⟩))]∧ULe U U' ∧
   M'=(b6,.var xf.v,TR)::(D++X)∧z=n - j) (n0:=n - fr)
  (E0:=[(8,.int .i64 (fr:Int)),(0,.slice pa n ca),(1,.slice pb n cb),(6,.pointer (some ⟨b6,0,none⟩))]) ⟨rfl,rfl,rfl,rfl,trivial⟩ ⟨fr,vas,Da,Nat.le_refl _,hfr,ha,ea.congr ha.len (fun t _=>(if_neg (by omega)).symm),rfl,uc,rfl,rfl⟩ ?_
 clear ha ea
 rintro z E U1 M' ⟨j,vs,D,hfj,hj,hrow,hel,rfl,hU,rfl,rfl⟩
 try refine Qb ?_
 refine Qi rfl (fun h=>?_) (fun h=>?_)
 ·have hjn:j < n:=by omega
  obtain ⟨v2,hv2⟩:=rb.at hjn
  obtain ⟨x2,rfl,hx2⟩:=eb _ _ hv2
  have s2:=sg j hjn
  have rA:=hrow.at (U:=U1) (M:=(b6,.var xf.v,TR)::(D++X)) sb
  obtain ⟨v1,hv1⟩:=rA.at hjn
  obtain ⟨x1,rfl,hx1⟩:=hel _ _ hv1
  simp only at hx1
  rw [if_neg (by omega)] at hx1
  have s1:=sf j hjn
  try refine Qb ?_
  refine sl_y (Qf sym rfl rfl rfl rfl rfl rfl ((rb.up uc sb).lt hv2) ((rb.up uc sb).get _ _ hv2).1) rfl rfl rfl rfl ?_; refine sl_y (Qp sym rfl rfl rfl rfl rfl (rb.up uc sb) hv2) rfl rfl rfl rfl ?_
  refine Qd rfl rfl rfl rfl rfl rfl (fun _=>Yd (hx2.rep.up uc sb) (hx2.le s2 (by omega))) ?_
  rintro v U' D hU ⟨rfl,rfl,rfl⟩
  repeat (first|refine Qc ?_|refine Qa fun _=>?_|refine w_al fun _=>?_)
  by_cases hg:g j≠0
  ·rw [decide_eq_true hg]
   try refine Qb ?_
   refine Qx [12,13,14] [0,1,2,3,4,5,6,7,8,9,10,11,12,13,14] sym (by kernel_rfl) ?_
   try refine Qb ?_
   refine sl_y (Qf sym rfl rfl rfl rfl rfl rfl (rA.lt hv1) (rA.get _ _ hv1).1) rfl rfl rfl rfl ?_; refine sl_y (Qp sym rfl rfl rfl rfl rfl rA hv1) rfl rfl rfl rfl ?_
   try refine Qb ?_
   refine sl_y (Qf sym rfl rfl rfl rfl rfl rfl ((rb.up uc sb).lt hv2) ((rb.up uc sb).get _ _ hv2).1) rfl rfl rfl rfl ?_; refine sl_y (Qp sym rfl rfl rfl rfl rfl (rb.up uc sb) hv2) rfl rfl rfl rfl ?_
   refine Qd rfl rfl rfl rfl rfl rfl (fun _=>(YM (hq.up uc sb) (by omega) (hx2.rep.up uc sb) (hx2.le s2 (by omega))).settle) ?_
   rintro v Uh3 D hU ⟨rfl,_,_,⟨xh3,rfl,h3,-⟩,-,-,hs⟩
   replace h3:=h3.sett hs
   clear hs
   repeat (first|refine Qc ?_|refine Qa fun _=>?_|refine w_al fun _=>?_)
   refine Qd rfl rfl rfl rfl rfl rfl (fun _=>(YP (hx1.rep.up uc sb) (hx1.le s1 (by omega)) (h3.rep.up uc sb) (h3.le (sq.mul s2) (by omega))).settle) ?_
   rintro v Uh4 D hU ⟨rfl,_,_,⟨xh4,rfl,h4,-⟩,-,-,hs⟩
   replace h4:=h4.sett hs
   clear hs
   repeat (first|refine Qc ?_|refine Qa fun _=>?_|refine w_al fun _=>?_)
   refine QB (j:=j) hjn (rA.get _ _ hv1).1 ?_
   refine qf (v:=xh4.v) (X:=(b6,.var xf.v,TR)::X) hrow pm hjn (fun D2 hr2=>?_)
   refine Qj ?_ perm1
   try refine Qb ?_
   exact Qg (E':=[(8,.int .i64 ((j:Int)+1)),(0,.slice pa n ca),(1,.slice pb n cb),(6,.pointer (some ⟨b6,0,none⟩))]) (m:=n - (j+1)) ⟨rfl,rfl,rfl,rfl,trivial⟩ (by omega)
    ⟨j+1,_,D2,by omega,by omega,hr2,YH (fun t x ht hne=>by
     have:=(hel.up (U':=Uh4) QF uc) t x ht
     simp only at this ⊢
     by_cases e:fr≤t∧t < j
     ·rw [if_pos e] at this; rw [if_pos (by omega)]; exact this
     ·rw [if_neg e] at this; rw [if_neg (by omega)]; exact this) (by rw [if_pos (by omega)]; exact ⟨xh4,rfl,h4⟩),rfl,uc,rfl,rfl⟩
  ·rw [decide_eq_false hg]
   have hg0:g j=0:=Classical.not_not.1 hg
   try refine Qb ?_
   exact Qg (E':=[(8,.int .i64 ((j:Int)+1)),(0,.slice pa n ca),(1,.slice pb n cb),(6,.pointer (some ⟨b6,0,none⟩))]) (m:=n - (j+1)) ⟨rfl,rfl,rfl,rfl,trivial⟩ (by omega)
    ⟨j+1,vs,D,by omega,by omega,hrow,hel.congr hrow.len (fun t _=>by
     by_cases e:fr≤t∧t < j
     ·rw [if_pos e,if_pos (by omega)]
     ·rw [if_neg e]
      by_cases e2:t=j
      ·subst e2; rw [if_pos (by omega),hg0,Rat.mul_zero,Rat.add_zero]
      ·rw [if_neg (by omega)]),rfl,uc,rfl,rfl⟩
 ·have e:j=n:=by omega
  subst e
  try refine Qb ?_
  exact Jv sym rfl .nil uc (M':=D++X) sb (.inr rfl) ⟨hU,D,vs,rfl,hrow,hel.congr hrow.len (fun t ht=>by
   by_cases e:fr≤t
   ·rw [if_pos e,if_pos ⟨e,ht⟩]
   ·rw [if_neg e,if_neg (fun h=>e h.1)])⟩
theorem Qcy {n b fr:Nat} {pa:Option Addr} {ca:Nat} {vas:List Value} {Da X:MH} {vb:Value} {f g:Nat→Rat} {xf:QV} {q:Rat} (ha:RowW TR 4 Da pa n vas) (ea:El Vq U vas f) (hb:Ls Vq 4 n U X vb g) (hq:xf.nrm U [] q) (hfr:fr≤n)
  (sf:∀ j,j < n→Szq (f j) b) (sg:∀ j,j < n→Szq (g j) b) (sq:Szq q b) (hb2:b≤10000000000) (hn:n≤1000000) :
  Cx Tryz.prog 131 [.slice pa n ca,vb,xf.v,.int .i64 (fr:Int)] G U (Da++X) fun _ U' M'=>ULe U U'∧∃ Da' vas',M'=Da'++X∧RowW TR 4 Da' pa n vas'∧El Vq U' vas' (fun j=>if fr≤j then f j+q*g j else f j) :=
 QbJ ha ea hb hq.rep (hq.le sq (Nat.le_refl b)) hfr sf sg sq hb2 hn
theorem Qex {n b fr:Nat} {pa:Option Addr} {ca:Nat} {vas:List Value} {Da X:MH} {f:Nat→Rat} {xf:QV} {q:Rat} (ha:RowW TR 4 Da pa n vas) (ea:El Vq U vas f) (hq:xf.nrm U [] q) (hq0:q≠0) (hfr:fr≤n)
  (sf:∀ j,j < n→Szq (f j) b) (sq:Szq q b) (hb2:b≤10000000000) (hn:n≤1000000) :
  Cx Tryz.prog 130 [.slice pa n ca,xf.v,.int .i64 (fr:Int)] G U (Da++X) fun _ U' M'=>ULe U U'∧∃ Da' vas',M'=Da'++X∧RowW TR 4 Da' pa n vas'∧El Vq U' vas' (fun j=>if fr≤j then f j / q else f j):=by
 refine JX Tryz.func130 rfl rfl rfl rfl ?_
 repeat (first|refine Qc ?_|refine Qa fun _=>?_|refine w_al fun _=>?_)
 rename_i b4
 refine Ql (fun z E U' M'=>∃ (j:Nat) (vs:List Value) (D:MH),fr≤j∧j≤n∧RowW TR 4 D pa n vs∧El Vq U' vs (fun t=>if fr≤t∧t < j then f t / q else f t)∧E=[(6,.int .i64 (j:Int)),(0,.slice pa n ca),(4,.pointer (some ⟨b4,0,none⟩))]∧ULe U U' ∧
   M'=(b4,.var xf.v,TR)::(D++X)∧z=n - j) (n0:=n - fr)
  (E0:=[(6,.int .i64 (fr:Int)),(0,.slice pa n ca),(4,.pointer (some ⟨b4,0,none⟩))]) ⟨rfl,rfl,rfl,trivial⟩ ⟨fr,vas,Da,Nat.le_refl _,hfr,ha,ea.congr ha.len (fun t _=>(if_neg (by omega)).symm),rfl,uc,rfl,rfl⟩ ?_
 clear ha ea
 rintro z E U1 M' ⟨j,vs,D,hfj,hj,hrow,hel,rfl,hU,rfl,rfl⟩
 try refine Qb ?_
 refine Qi rfl (fun h=>?_) (fun h=>?_)
 ·have hjn:j < n:=by omega
  have rA:=hrow.at (U:=U1) (M:=(b4,.var xf.v,TR)::(D++X)) sb
  obtain ⟨v1,hv1⟩:=rA.at hjn
  obtain ⟨x1,rfl,hx1⟩:=hel _ _ hv1
  simp only at hx1
  rw [if_neg (by omega)] at hx1
  have s1:=sf j hjn
  try refine Qb ?_
  refine sl_y (Qf sym rfl rfl rfl rfl rfl rfl (rA.lt hv1) (rA.get _ _ hv1).1) rfl rfl rfl rfl ?_; refine sl_y (Qp sym rfl rfl rfl rfl rfl rA hv1) rfl rfl rfl rfl ?_
  refine Qd rfl rfl rfl rfl rfl rfl (fun _=>Yd (hx1.rep.up uc sb) (hx1.le s1 (by omega))) ?_
  rintro v U' D hU ⟨rfl,rfl,rfl⟩
  repeat (first|refine Qc ?_|refine Qa fun _=>?_|refine w_al fun _=>?_)
  by_cases hg:f j≠0
  ·rw [decide_eq_true hg]
   try refine Qb ?_
   refine Qx [7,11,12] [0,1,2,3,4,5,6,7,8,9,10,11,12] sym (by kernel_rfl) ?_
   try refine Qb ?_
   refine sl_y (Qf sym rfl rfl rfl rfl rfl rfl (rA.lt hv1) (rA.get _ _ hv1).1) rfl rfl rfl rfl ?_; refine sl_y (Qp sym rfl rfl rfl rfl rfl rA hv1) rfl rfl rfl rfl ?_
   try refine Qb ?_
   refine Qd rfl rfl rfl rfl rfl rfl (fun _=>(QaG (hx1.rep.up uc sb) (hx1.le s1 (by omega)) (hq.rep.up uc sb) (hq.le sq (by omega))).settle) ?_
   rintro v U3 D3 hU3 ⟨rfl,U4,D4,⟨x3,e3,rfl,-,h3,-⟩,-,hU4,hs4⟩
   obtain ⟨rfl,h5⟩:=h3 hq0
   have h4:=h5.sett hs4
   clear h3 h5 hs4
   rw [List.nil_append]
   try refine Qb ?_
   refine QB (j:=j) hjn (rA.get _ _ hv1).1 ?_
   refine qf (v:=x3.v) (X:=(b4,.var xf.v,TR)::X) hrow pm hjn (fun D2 hr2=>?_)
   refine Qj ?_ perm1
   try refine Qb ?_
   exact Qg (E':=[(6,.int .i64 ((j:Int)+1)),(0,.slice pa n ca),(4,.pointer (some ⟨b4,0,none⟩))]) (m:=n - (j+1)) ⟨rfl,rfl,rfl,trivial⟩ (by omega)
    ⟨j+1,_,D2,by omega,by omega,hr2,YH (fun t x ht hne=>by
     have:=(hel.up (U':=U3) QF uc) t x ht
     simp only at this ⊢
     by_cases e:fr≤t∧t < j
     ·rw [if_pos e] at this; rw [if_pos (by omega)]; exact this
     ·rw [if_neg e] at this; rw [if_neg (by omega)]; exact this) (by rw [if_pos (by omega)]; exact ⟨x3,rfl,h4⟩),rfl,uc,rfl,rfl⟩
  ·rw [decide_eq_false hg]
   have hg0:f j=0:=Classical.not_not.1 hg
   try refine Qb ?_
   exact Qg (E':=[(6,.int .i64 ((j:Int)+1)),(0,.slice pa n ca),(4,.pointer (some ⟨b4,0,none⟩))]) (m:=n - (j+1)) ⟨rfl,rfl,rfl,trivial⟩ (by omega)
    ⟨j+1,vs,D,by omega,by omega,hrow,hel.congr hrow.len (fun t _=>by
     by_cases e:fr≤t∧t < j
     ·rw [if_pos e,if_pos (by omega)]
     ·rw [if_neg e]
      by_cases e2:t=j
      ·subst e2; rw [if_pos (by omega),hg0,Rat.div_def,Rat.zero_mul]
      ·rw [if_neg (by omega)]),rfl,uc,rfl,rfl⟩
 ·have e:j=n:=by omega
  subst e
  try refine Qb ?_
  exact Jv sym rfl .nil uc (M':=D++X) sb (.inr rfl) ⟨hU,D,vs,rfl,hrow,hel.congr hrow.len (fun t ht=>by
   by_cases e:fr≤t
   ·rw [if_pos e,if_pos ⟨e,ht⟩]
   ·rw [if_neg e,if_neg (fun h=>e h.1)])⟩
end Go.Proofs.YthnnlgjlhnmhnaaGreat
