/- Texts of this seat's own, merged: each begins with its own remark. -/
import Derived.Test.YtnjpkncacddplaaGreatDoorM23
import Derived.Test.YtnjpkncacddplaaGreatDoorM17
/- Walks of the statements' helpers: rows of integers, comparisons of rows and matrices. -/
namespace Go.Proofs.YtnjpkncacddplaaGreatDoor
open Go.Hp
variable {G:World} {U U':UH} {M M':MH}
def Vz (_:UH) (v:Value) (z:Int):Prop:=v = .int .i64 z ∧ -9223372036854775808≤z∧z≤9223372036854775807
def Lz (r c:Nat) (U:UH) (M:MH) (v:Value) (Z:Nat→Nat→Int):Prop:=Ls (fun U v g=>Ls Vz 1 c U M v g) 1 r U M v Z
theorem QmB:Kept Vz:=fun _ _ _ _ _ h=>h
theorem Qdl {x y:QV} {p q:Rat} (hx:x.nrm U M p) (hy:y.nrm U M q) :
  Ct Tryz.prog 41 [x.v,y.v] G U M fun v U' D=>v = .bool (decide (p=q))∧U=U'∧D=[]:=by
 refine Qi Tryz.func41 rfl rfl rfl rfl ?_
 repeat (first|refine Qc ?_|refine Qb fun _=>?_|refine w_al fun _=>?_)
 refine Qd rfl rfl rfl rfl rfl rfl (fun _=>Qdd (hx.1.up uc sb) (hy.1.up uc sb)) ?_
 rintro v U' D hU ⟨rfl,rfl,rfl⟩
 repeat (first|refine Qc ?_|refine Qb fun _=>?_|refine w_al fun _=>?_)
 by_cases h:p.num=q.num
 ·rw [decide_eq_true h]
  repeat (first|refine Qc ?_|refine Qb fun _=>?_|refine w_al fun _=>?_)
  refine Qd rfl rfl rfl rfl rfl rfl (fun _=>Qdd (hx.2.up uc sb) (hy.2.up uc sb)) ?_
  rintro v U' D hU ⟨rfl,rfl,rfl⟩
  repeat (first|refine Qc ?_|refine Qb fun _=>?_|refine w_al fun _=>?_)
  by_cases h2:(p.den:Int)=(q.den:Int)
  ·rw [decide_eq_true h2]
   exact Qf [] sym rfl (.cons (.tmp rfl) .nil) uc sb (.inl rfl) ⟨Qmh (Rat.ext h (by omega)),rfl,rfl⟩
  ·rw [decide_eq_false h2]
   exact Qf [] sym rfl (.cons (.tmp rfl) .nil) uc sb (.inl rfl) ⟨jS (fun e=>h2 (by rw [e])),rfl,rfl⟩
 ·rw [decide_eq_false h]
  repeat (first|refine Qc ?_|refine Qb fun _=>?_|refine w_al fun _=>?_)
  exact Qf [] sym rfl (.cons (.tmp rfl) .nil) uc sb (.inl rfl) ⟨jS (fun e=>h (by rw [e])),rfl,rfl⟩
theorem QbD {m n:Nat} {vx vy:Value} {f g:Nat→Rat} (hx:Ls Vq 4 m U M vx f) (hy:Ls Vq 4 n U M vy g) (hm:m≤1000000000) (hn:n≤1000000000) :
  Ct Tryz.prog 86 [vx,vy] G U M fun v U' D=>∃ b:Bool,v = .bool b∧(b=true↔m=n∧∀ i,i < n→f i=g i)∧U=U'∧D=[]:=by
 obtain ⟨px,cx,xs,rfl,-,rx,ex⟩:=hx
 obtain ⟨py,cy,ys,rfl,-,ry,ey⟩:=hy
 refine Qi Tryz.func86 rfl rfl rfl rfl ?_
 try refine Qa ?_
 refine JX rfl (fun h1=>?_) (fun h1=>?_)
 ·have hne:¬ m=n:=by omega
  try refine Qa ?_
  exact Qf [] sym rfl (.cons (.tmp rfl) .nil) uc sb (.inl rfl) ⟨false,rfl,⟨(fun h=>by cases h),fun h=>absurd h.1 hne⟩,rfl,rfl⟩
 ·have e:m=n:=by omega
  subst e
  try refine Qa ?_
  refine Qp (fun z E U' M'=>∃ i:Nat,i≤m∧(∀ j,j < i→f j=g j)∧E=[(5,.int .i64 (i:Int)),(0,.slice px m cx),(1,.slice py m cy)]∧U=U'∧M=M'∧z=m - i) (n0:=m)
   (E0:=[(5,.int .i64 ((0:Nat):Int)),(0,.slice px m cx),(1,.slice py m cy)]) ⟨rfl,rfl,rfl,trivial⟩ ⟨0,by omega,(fun j h=>absurd h (Nat.not_lt_zero j)),rfl,rfl,rfl,rfl⟩ ?_
  rintro z E U' M' ⟨i,hi,hall,rfl,rfl,rfl,rfl⟩
  try refine Qa ?_
  refine Qk rfl (fun h2=>?_) (fun h2=>?_)
  ·have him:i < m:=by omega
   obtain ⟨v1,hv1⟩:=rx.at him
   obtain ⟨x1,rfl,hx1⟩:=ex _ _ hv1
   obtain ⟨v2,hv2⟩:=ry.at him
   obtain ⟨x2,rfl,hx2⟩:=ey _ _ hv2
   try refine Qa ?_
   refine QA [0,1,2,3,4,5,6,7,8,9] sym (by kernel_rfl) ?_
   try refine Qa ?_
   refine sl_y (Qg sym rfl rfl rfl rfl rfl rfl (rx.lt hv1) (rx.get _ _ hv1).1) rfl rfl rfl rfl ?_; refine sl_y (Qr sym rfl rfl rfl rfl rfl rx hv1) rfl rfl rfl rfl ?_
   try refine Qa ?_
   refine sl_y (Qg sym rfl rfl rfl rfl rfl rfl (ry.lt hv2) (ry.get _ _ hv2).1) rfl rfl rfl rfl ?_; refine sl_y (Qr sym rfl rfl rfl rfl rfl ry hv2) rfl rfl rfl rfl ?_
   refine Qd rfl rfl rfl rfl rfl rfl (fun _=>Qdl (hx1.up uc sb) (hx2.up uc sb)) ?_
   rintro v U' D hU ⟨rfl,rfl,rfl⟩
   repeat (first|refine Qc ?_|refine Qb fun _=>?_|refine w_al fun _=>?_)
   by_cases h3:f i=g i
   ·rw [decide_eq_true h3]
    try refine Qa ?_
    exact Qj (E':=[(5,.int .i64 ((i:Int)+1)),(0,.slice px m cx),(1,.slice py m cy)]) (m:=m - (i+1)) ⟨rfl,rfl,rfl,trivial⟩ (by omega)
     ⟨i+1,by omega,(fun j hj=>by
      rcases Nat.lt_or_eq_of_le (Nat.le_of_lt_succ hj) with h | h
      ·exact hall j h
      ·rw [h]; exact h3),rfl,rfl,rfl,rfl⟩
   ·rw [decide_eq_false h3]
    try refine Qa ?_
    exact Qf [] sym rfl (.cons (.tmp rfl) .nil) uc sb (.inl rfl) ⟨false,rfl,⟨(fun h=>by cases h),fun h=>absurd (h.2 i him) h3⟩,rfl,rfl⟩
  ·have e:i=m:=by omega
   subst e
   try refine Qa ?_
   exact Qf [] sym rfl (.cons (.tmp rfl) .nil) uc sb (.inl rfl) ⟨true,rfl,⟨fun _=>⟨rfl,hall⟩,fun _=>rfl⟩,rfl,rfl⟩
end Go.Proofs.YtnjpkncacddplaaGreatDoor

/- Walks of the helpers of layer 9's statements: are matrices small? -/
namespace Go.Proofs.YtnjpkncacddplaaGreatDoor
open Go.Hp
variable {G:World} {U U':UH} {M M':MH}
def Xq (U:UH) (v:Value) (q:Rat):Prop:=∃ x:QV,v=x.v∧x.rep U [] q
theorem QmU:Kept Xq:=fun _ _ _ _ hU ⟨x,h1,h2⟩=>⟨x,h1,h2.up hU (List.Sublist.refl _)⟩
structure Raw (U:UH) (v:Value) (r c:Int) (n:Nat) (f:Nat→Rat):Prop where
 rows : -9223372036854775808≤r∧r≤9223372036854775807
 cols : -9223372036854775808≤c∧c≤9223372036854775807
 num:n≤9223372036854775807
 elt:∃ a,v = .agg #[.int .i64 r,.int .i64 c,a]∧Ls Xq 4 n U [] a f
theorem Raw.up {v:Value} {r c:Int} {n:Nat} {f:Nat→Rat} (h:Raw U v r c n f) (hU:ULe U U'):Raw U' v r c n f:=by
 obtain ⟨a,h1,h2⟩:=h.elt
 exact ⟨h.rows,h.cols,h.num,a,h1,h2.up QmU hU (List.Sublist.refl _)⟩
def Lit (most:Nat) (U:UH) (v:Value) (r c:Int) (n:Nat) (f:Nat→Rat):Prop :=
 n≤most*most∧(Vld r c n→r≤most∧c≤most)∧∃ a,v = .agg #[.int .i64 r,.int .i64 c,a]∧Ls (Wq 1) 4 n U [] a f
end Go.Proofs.YtnjpkncacddplaaGreatDoor

/- Walks of the helpers of layer 9's statements: awake. -/
namespace Go.Proofs.YtnjpkncacddplaaGreatDoor
open Go.Hp
variable {G:World} {U U':UH} {M M':MH}
theorem jJ {s:Nat} {vs:List Value} (h:vs.all (fun v=>Nat.beq v.cells.toList.length s)=true):∀ v ∈ vs,v.cells.toList.length=s:=fun v hv=>Nat.eq_of_beq_eq_true (List.all_eq_true.1 h v hv)
abbrev zz (ls:List (List Int)):Nat→Nat→Rat:=fun i j=>(((ls.getD i []).getD j 0:Int):Rat)
end Go.Proofs.YtnjpkncacddplaaGreatDoor
