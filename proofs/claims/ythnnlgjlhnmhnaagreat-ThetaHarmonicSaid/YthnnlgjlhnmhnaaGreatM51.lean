/- Texts of this seat's own, merged: each begins with its own remark. -/
import Derived.Test.YthnnlgjlhnmhnaaGreatM14
import Derived.Test.YthnnlgjlhnmhnaaGreatM19
import Derived.Test.YthnnlgjlhnmhnaaGreatM35
import Derived.Test.YthnnlgjlhnmhnaaGreatVz
import Derived.Test.YthnnlgjlhnmhnaaGreatM25
import Derived.Test.YthnnlgjlhnmhnaaGreatM50
import Derived.Test.YthnnlgjlhnmhnaaGreatM23
import Derived.Test.YthnnlgjlhnmhnaaGreatM40
import Derived.Test.YthnnlgjlhnmhnaaGreatM26
import Derived.Test.YthnnlgjlhnmhnaaGreatM48
import Derived.Test.YthnnlgjlhnmhnaaGreatM9
import Derived.Test.YthnnlgjlhnmhnaaGreatM7
import Derived.Test.YthnnlgjlhnmhnaaGreatHl
import Derived.Test.YthnnlgjlhnmhnaaGreatHw
/- Walks of layer 36: elements within the limit, matrices of fractions. -/
namespace Go.Proofs.YthnnlgjlhnmhnaaGreat
open Go.Hp
variable {G:World} {U U':UH} {M:MH}
theorem pgs {α:Type} {a b:List α} (h:∀ f:α→Nat,(a.map f).sum=(b.map f).sum:=by intro f; simp only [List.set_cons_zero,List.set_cons_succ,TInt,TIs,TR,TM,zeroQV,zeroIV0,QV.v,List.map_append,List.map_cons,List.sum_append,List.sum_cons,List.flatten_cons,List.flatten_append,List.flatten_nil,List.map_nil,List.sum_nil,List.nil_append,List.append_nil]; omega):a.Perm b:=pq h
theorem Qcx {n c:Nat} {p:Option Addr} {vs:List Value} {f:Nat→Int} (rw1:RowAt U M 1 p n vs) (el:El Vz U vs f) (hn:n≤1000000000) :
  Ct Tryz.prog 52 [.slice p n c] G U M fun v U' D=>∃ b:Bool,v = .bool b∧(b=true↔∀ k,k < n → -1000≤f k∧f k≤1000)∧U=U'∧D=[]:=by
 refine Qh Tryz.func52 rfl rfl rfl rfl ?_
 repeat (first|refine Qc ?_|refine Qa fun _=>?_|refine w_al fun _=>?_)
 try refine Qu (M':=M) (ULe.refl _) sbk ?_
 refine Ql (fun z E U' M'=>∃ (i:Nat),i≤n∧(∀ k,k < i → -1000≤f k∧f k≤1000)∧U=U'∧E=[(7,.int .i64 (i:Int)),(6,.int .i64 (n:Int)),(5,.slice p n c)]∧ULe U U'∧M'=M∧z=n - i) (n0:=n - 0) (E0:=[(7,.int .i64 ((0:Nat):Int)),(6,.int .i64 (n:Int)),(5,.slice p n c)]) ⟨rfl,rfl,rfl,trivial⟩ ⟨0,by omega,(fun k h=>absurd h (Nat.not_lt_zero k)),rfl,rfl,uc,rfl,rfl⟩ ?_
 rintro z E U1 M' ⟨i,hi,hall,rfl,rfl,hU1,rfl,rfl⟩
 try refine Qb ?_
 refine Qi rfl (fun h=>?_) (fun h=>?_)
 ·have hin:i < n:=by omega
  obtain ⟨v1,hv1⟩:=rw1.at hin
  obtain ⟨rfl,hz⟩:=el _ _ hv1
  repeat (first|refine Qc ?_|refine Qa fun _=>?_|refine w_al fun _=>?_)
  refine sl_y (Qf sym rfl rfl rfl rfl rfl rfl ((rw1.up uc sb).lt hv1) ((rw1.up uc sb).get _ _ hv1).1) rfl rfl rfl rfl ?_; refine sl_y (Qk sym rfl rfl rfl rfl (rw1.up uc sb) hv1 rfl) rfl rfl rfl rfl ?_
  repeat (first|refine Qc ?_|refine Qa fun _=>?_|refine w_al fun _=>?_)
  refine Qw rfl rfl (fun h1=>?_) (fun h1=>?_)
  ·repeat (first|refine Qc ?_|refine Qa fun _=>?_|refine w_al fun _=>?_)
   exact Qe [] sym rfl (.cons (.tmp rfl) .nil) uc sb (.inl rfl) ⟨false,rfl,⟨(fun h=>by cases h),fun h=>absurd (h i hin).1 (by omega)⟩,rfl,rfl⟩
  ·repeat (first|refine Qc ?_|refine Qa fun _=>?_|refine w_al fun _=>?_)
   refine Qi rfl (fun h2=>?_) (fun h2=>?_)
   ·repeat (first|refine Qc ?_|refine Qa fun _=>?_|refine w_al fun _=>?_)
    exact Qe [] sym rfl (.cons (.tmp rfl) .nil) uc sb (.inl rfl) ⟨false,rfl,⟨(fun h=>by cases h),fun h=>absurd (h i hin).2 (by omega)⟩,rfl,rfl⟩
   ·repeat (first|refine Qc ?_|refine Qa fun _=>?_|refine w_al fun _=>?_)
    exact Qg (E':=[(7,.int .i64 ((i:Int)+1)),(6,.int .i64 (n:Int)),(5,.slice p n c)]) (m:=n - (i+1)) ⟨rfl,rfl,rfl,trivial⟩ (by omega) ⟨i+1,by omega,(fun k hk=>by
     rcases Nat.lt_or_eq_of_le (Nat.le_of_lt_succ hk) with h5 | h5
     ·exact hall k h5
     ·rw [h5]; omega),rfl,rfl,uc,rfl,rfl⟩
 ·obtain rfl:i=n:=by omega
  repeat (first|refine Qc ?_|refine Qa fun _=>?_|refine w_al fun _=>?_)
  exact Qe [] sym rfl (.cons (.tmp rfl) .nil) uc sb (.inl rfl) ⟨true,rfl,⟨fun _=>hall,fun _=>rfl⟩,rfl,rfl⟩
theorem QbB {n N c:Nat} {p:Option Addr} {vs:List Value} {f:Nat→Int} (rw1:RowAt U [] 1 p N vs) (el:El Vz U vs f) (hN:N=n*n) (hn:N≤1000000) :
  Ct Tryz.prog 54 [.int .i64 (n:Int),.slice p N c] G U M fun v U' D=>Vm Vq n n U' v (fun i j=>((f (i*n+j):Int):Rat))∧D=[]:=by
 subst hN
 refine QhP ?_
 have hfl:∀ i,fl n (fun i j=>((f (i*n+j):Int):Rat)) i=((f i:Int):Rat):=fun i=>by show ((f (i / n*n+i % n):Int):Rat)=_; rw [Nat.mul_comm,Nat.div_add_mod]
 refine Qh Tryz.func54 rfl rfl rfl rfl ?_
 repeat (first|refine Qc ?_|refine Qa fun _=>?_|refine w_al fun _=>?_)
 rename_i b4 b5
 generalize hN:n*n=N at *
 try refine Qu (M':=(b5,.var (.agg #[.int .i64 (n:Int),.int .i64 (n:Int),.slice none 0 0]),TM)::(b4,.var (.agg #[.int .i64 0,.int .i64 0,.slice none 0 0]),TM)::(([])++M)) (ULe.refl _) sbk ?_
 refine Ql (fun z E U' M'=>∃ (i:Nat) (Q:Option Addr) (C:Nat) (us:List Value) (D:MH),i≤N∧RowO TR 4 D Q i C us∧El Vq U' us (fl n (fun i j=>((f (i*n+j):Int):Rat)))∧E=[(13,.int .i64 (i:Int)),(12,.int .i64 (N:Int)),(11,.slice p N c),(5,.pointer (some ⟨b5,0,none⟩)),(4,.pointer (some ⟨b4,0,none⟩))]∧ULe U U'∧M'=(b5,.var (.agg #[.int .i64 (n:Int),.int .i64 (n:Int),.slice Q i C]),TM)::(b4,.var (.agg #[.int .i64 0,.int .i64 0,.slice none 0 0]),TM)::(D++M)∧z=N - i) (n0:=N - 0) (E0:=[(13,.int .i64 ((0:Nat):Int)),(12,.int .i64 (N:Int)),(11,.slice p N c),(5,.pointer (some ⟨b5,0,none⟩)),(4,.pointer (some ⟨b4,0,none⟩))]) ⟨rfl,rfl,rfl,rfl,rfl,trivial⟩ ⟨0,none,0,[],[],by omega,RowO.nil,El.nil,rfl,uc,rfl,rfl⟩ ?_
 rintro z E U1 M' ⟨i,Q,C,us,D,hi,hrow,hel,rfl,hU1,rfl,rfl⟩
 try refine Qb ?_
 refine Qi rfl (fun h=>?_) (fun h=>?_)
 ·have hin:i < N:=by omega
  obtain ⟨v1,hv1⟩:=rw1.at hin
  obtain ⟨rfl,hz⟩:=el _ _ hv1
  try refine Qb ?_
  refine sl_y (Qf sym rfl rfl rfl rfl rfl rfl ((rw1.up uc sb).lt hv1) ((rw1.up uc sb).get _ _ hv1).1) rfl rfl rfl rfl ?_; refine sl_y (Qk sym rfl rfl rfl rfl (rw1.up uc sb) hv1 rfl) rfl rfl rfl rfl ?_
  try refine Qb ?_
  refine Qx [5,6,7] [0,1,2,3,4,5,6,7] sym (by kernel_rfl) ?_
  try refine Qb ?_
  refine Qd rfl rfl rfl rfl rfl rfl (fun _=>(VU (z:=f i) (by omega) (by omega)).settle) ?_
  rintro v Uh2 D hU ⟨rfl,_,_,⟨xh2,rfl,h2,-⟩,-,-,hs⟩
  replace h2:=h2.sett hs
  clear hs
  repeat (first|refine Qc ?_|refine Qa fun _=>?_|refine w_al fun _=>?_)
  refine Ye hrow (X:=(b5,.var (.agg #[.int .i64 (n:Int),.int .i64 (n:Int),.slice Q i C]),TM)::(b4,.var (.agg #[.int .i64 0,.int .i64 0,.slice none 0 0]),TM)::M) pgs (fun b P2 C2 D2 hr2=>?_)
  refine Qj (M':=(b5,.var (.agg #[.int .i64 (n:Int),.int .i64 (n:Int),.slice Q i C]),TM)::(b4,.var (.agg #[.int .i64 0,.int .i64 0,.slice none 0 0]),TM)::(D2++M)) ?_ pgs
  try refine Qb ?_
  refine Vx 0 sym rfl rfl rfl rfl rfl rfl rfl rfl rfl rfl rfl ?_
  try refine Qb ?_
  exact Qg (E':=[(13,.int .i64 ((i:Int)+1)),(12,.int .i64 (N:Int)),(11,.slice p N c),(5,.pointer (some ⟨b5,0,none⟩)),(4,.pointer (some ⟨b4,0,none⟩))]) (m:=N - (i+1)) ⟨rfl,rfl,rfl,rfl,rfl,trivial⟩ (by omega) ⟨i+1,P2,C2,_,D2,by omega,hr2,JV hrow.len.1 (hel.up QF uc) ⟨xh2,rfl,by rw [hfl]; exact h2⟩,rfl,uc,rfl,rfl⟩
 ·obtain rfl:N=i:=by omega
  subst hN
  repeat (first|refine Qc ?_|refine Qa fun _=>?_|refine w_al fun _=>?_)
  exact Qe D sym rfl (.cons (.cell 1 rfl rfl rfl) .nil) uc sb (.inl rfl) ⟨⟨_,rfl,Q,C,us,rfl,hrow,hel⟩,uc⟩
end Go.Proofs.YthnnlgjlhnmhnaaGreat

/- Walk of theta.Check. -/
namespace Go.Proofs.YthnnlgjlhnmhnaaGreat
open Go.Hp
open Classical
variable {G:World} {U U':UH} {M:MH}
def Evn (n:Nat) (f:Nat→Int):Prop:=∀ i,i < n→(∀ k,k < n→f (i*n+k)=f (k*n+i))∧(f (i*n+i)).tmod 2=0
def Pdm (n:Nat) (f:Nat→Int):Prop:=∀ k,1≤k→k≤n→0 < La.det k fun i j=>((f (i*n+j):Int):Rat)
noncomputable def chk (r:Int) (N:Nat) (f:Nat→Int):Int :=
 if r < 1∨r > 8 then 2 else if (N:Int)≠r*r then 4 else if ¬ (∀ k,k < N → -1000≤f k∧f k≤1000) then 2 else if ¬ Evn r.toNat f then 3 else if ¬ Pdm r.toNat f then 27 else 0
theorem qz {r:Int} {N c:Nat} {p:Option Addr} {vs:List Value} {f:Nat→Int} (rw1:RowAt U [] 1 p N vs) (el:El Vz U vs f) (hN:N≤9223372036854775807) :
  Ct Tryz.prog 18 [.agg #[.int .i64 r,.slice p N c]] G U M fun v U' D=>v = .int .i64 (chk r N f)∧ULe U U'∧D=[]:=by
 refine Qh Tryz.func18 rfl rfl rfl rfl ?_
 repeat (first|refine Qc ?_|refine Qa fun _=>?_|refine w_al fun _=>?_)
 rename_i b1
 refine Qw rfl rfl (fun h1=>?_) (fun h1=>?_)
 ·repeat (first|refine Qc ?_|refine Qa fun _=>?_|refine w_al fun _=>?_)
  exact Qe [] sym rfl (.cons (.tmp rfl) .nil) uc sb (.inl rfl) ⟨by unfold chk; rw [if_pos (.inl h1)]; rfl,uc,rfl⟩
 repeat (first|refine Qc ?_|refine Qa fun _=>?_|refine w_al fun _=>?_)
 refine Qi rfl (fun h2=>?_) (fun h2=>?_)
 ·repeat (first|refine Qc ?_|refine Qa fun _=>?_|refine w_al fun _=>?_)
  exact Qe [] sym rfl (.cons (.tmp rfl) .nil) uc sb (.inl rfl) ⟨by unfold chk; rw [if_pos (.inr h2)]; rfl,uc,rfl⟩
 obtain ⟨n,rfl⟩:∃ n:Nat,r=(n:Int):=⟨r.toNat,by omega⟩
 have hnn:n*n≤8*8:=Nat.mul_le_mul (by omega) (by omega)
 have hni:(n:Int)*(n:Int)=((n*n:Nat):Int):=(Int.natCast_mul n n).symm
 have hc1:chk (n:Int) N f=if (N:Int)≠(n:Int)*(n:Int) then 4 else if ¬ (∀ k,k < N → -1000≤f k∧f k≤1000) then 2 else if ¬ Evn n f then 3 else if ¬ Pdm n f then 27 else 0:=by
  unfold chk
  rw [if_neg (by omega),Int.toNat_natCast]
 rw [hc1]
 clear hc1
 repeat (first|refine Qc ?_|refine Qa fun _=>?_|refine w_al fun _=>?_)
 refine QK rfl (fun h3=>?_) (fun h3=>?_)
 ·repeat (first|refine Qc ?_|refine Qa fun _=>?_|refine w_al fun _=>?_)
  exact Qe [] sym rfl (.cons (.tmp rfl) .nil) uc sb (.inl rfl) ⟨by rw [if_pos h3]; rfl,uc,rfl⟩
 rw [if_neg (fun h=>h h3)]
 obtain rfl:N=n*n:=by omega
 repeat (first|refine Qc ?_|refine Qa fun _=>?_|refine w_al fun _=>?_)
 refine Qd rfl rfl rfl rfl rfl rfl (fun _=>Qcx (rw1.up uc (List.nil_sublist _)) (el.up KeptC.out uc) (by omega)) ?_
 rintro v2 U2 D hU2 ⟨b,rfl,hb,rfl,rfl⟩
 rw [List.nil_append]
 cases b
 ·repeat (first|refine Qc ?_|refine Qa fun _=>?_|refine w_al fun _=>?_)
  exact Qe [] sym rfl (.cons (.tmp rfl) .nil) uc sb (.inl rfl) ⟨by rw [if_pos fun h=>by have:=hb.2 h; cases this]; rfl,uc,rfl⟩
 have hin:=hb.1 rfl
 rw [if_neg (fun h=>h hin)]
 repeat (first|refine Qc ?_|refine Qa fun _=>?_|refine w_al fun _=>?_)
 try refine Qu (M':=(b1,.var (.agg #[.int .i64 (n:Int),.slice p (n*n) c]),24)::M) (ULe.refl _) sbk ?_
 refine Ql (fun z E U' M'=>∃ (i:Nat),i≤n∧(∀ a,a < i→(∀ k,k < n→f (a*n+k)=f (k*n+a))∧(f (a*n+a)).tmod 2=0)∧U=U'∧E=[(33,.int .i64 (i:Int)),(32,.int .i64 (n:Int)),(3,.int .i64 (n:Int)),(1,.pointer (some ⟨b1,0,none⟩))]∧ULe U U'∧M'=(b1,.var (.agg #[.int .i64 (n:Int),.slice p (n*n) c]),24)::M∧z=n - i) (n0:=n - 0) (E0:=[(33,.int .i64 ((0:Nat):Int)),(32,.int .i64 (n:Int)),(3,.int .i64 (n:Int)),(1,.pointer (some ⟨b1,0,none⟩))]) ⟨rfl,rfl,rfl,rfl,trivial⟩ ⟨0,by omega,(fun a h=>absurd h (Nat.not_lt_zero a)),rfl,rfl,uc,rfl,rfl⟩ ?_
 rintro z E U1 M' ⟨i,hi,hall,rfl,rfl,hU1,rfl,rfl⟩
 try refine Qb ?_
 refine Qi rfl (fun h=>?_) (fun h=>?_)
 ·have hir:i < n:=by omega
  repeat (first|refine Qc ?_|refine Qa fun _=>?_|refine w_al fun _=>?_)
  try refine Qu (M':=(b1,.var (.agg #[.int .i64 (n:Int),.slice p (n*n) c]),24)::M) (ULe.refl _) sbk ?_
  refine Ql (fun z E U' M'=>∃ (k:Nat),k≤n∧(∀ a,a < k→f (i*n+a)=f (a*n+i))∧U=U'∧E=[(37,.int .i64 (k:Int)),(36,.int .i64 (n:Int)),(4,.int .i64 (i:Int)),(33,.int .i64 (i:Int)),(32,.int .i64 (n:Int)),(3,.int .i64 (n:Int)),(1,.pointer (some ⟨b1,0,none⟩))]∧ULe U U'∧M'=(b1,.var (.agg #[.int .i64 (n:Int),.slice p (n*n) c]),24)::M∧z=n - k) (n0:=n - 0) (E0:=[(37,.int .i64 ((0:Nat):Int)),(36,.int .i64 (n:Int)),(4,.int .i64 (i:Int)),(33,.int .i64 (i:Int)),(32,.int .i64 (n:Int)),(3,.int .i64 (n:Int)),(1,.pointer (some ⟨b1,0,none⟩))]) ⟨rfl,rfl,rfl,rfl,rfl,rfl,rfl,trivial⟩ ⟨0,by omega,(fun a h=>absurd h (Nat.not_lt_zero a)),rfl,rfl,uc,rfl,rfl⟩ ?_
  rintro z E U3 M' ⟨k,hk,hsym,rfl,rfl,hU3,rfl,rfl⟩
  try refine Qb ?_
  refine Qi rfl (fun h4=>?_) (fun h4=>?_)
  ·have hkn:k < n:=by omega
   have l1:=Ym hir hkn
   have l2:=Ym hkn hir
   obtain ⟨v1,hv1⟩:=rw1.at l1
   obtain ⟨v2,hv2⟩:=rw1.at l2
   obtain ⟨rfl,hz1⟩:=el _ _ hv1
   obtain ⟨rfl,hz2⟩:=el _ _ hv2
   repeat (first|refine Qc ?_|refine Qa fun _=>?_|refine w_al fun _=>?_)
   refine Qx [] [0,1,2,3,4,5,6,7,8,9,10,11,12,13,14,15,16,17,18] sym (by kernel_rfl) ?_
   repeat (first|refine Qc ?_|refine Qa fun _=>?_|refine w_al fun _=>?_)
   refine sl_y (Qf sym rfl rfl rfl rfl rfl ( by omega) ((rw1.up uc sb).lt hv1) ((rw1.up uc sb).get _ _ hv1).1) rfl rfl rfl rfl ?_; refine sl_y (Qk sym rfl rfl rfl rfl (rw1.up uc sb) hv1 rfl) rfl rfl rfl rfl ?_
   repeat (first|refine Qc ?_|refine Qa fun _=>?_|refine w_al fun _=>?_)
   refine sl_y (Qf sym rfl rfl rfl rfl rfl ( by omega) ((rw1.up uc sb).lt hv2) ((rw1.up uc sb).get _ _ hv2).1) rfl rfl rfl rfl ?_; refine sl_y (Qk sym rfl rfl rfl rfl (rw1.up uc sb) hv2 rfl) rfl rfl rfl rfl ?_
   repeat (first|refine Qc ?_|refine Qa fun _=>?_|refine w_al fun _=>?_)
   refine QK rfl (fun h5=>?_) (fun h5=>?_)
   ·repeat (first|refine Qc ?_|refine Qa fun _=>?_|refine w_al fun _=>?_)
    exact Qe [] sym rfl (.cons (.tmp rfl) .nil) uc sb (.inl rfl) ⟨by rw [if_pos fun h=>h5 ((h i hir).1 k hkn)]; rfl,uc,rfl⟩
   ·repeat (first|refine Qc ?_|refine Qa fun _=>?_|refine w_al fun _=>?_)
    exact Qg (E':=[(37,.int .i64 ((k:Int)+1)),(36,.int .i64 (n:Int)),(4,.int .i64 (i:Int)),(33,.int .i64 (i:Int)),(32,.int .i64 (n:Int)),(3,.int .i64 (n:Int)),(1,.pointer (some ⟨b1,0,none⟩))]) (m:=n - (k+1)) ⟨rfl,rfl,rfl,rfl,rfl,rfl,rfl,trivial⟩ (by omega) ⟨k+1,by omega,(fun a ha=>by
     rcases Nat.lt_or_eq_of_le (Nat.le_of_lt_succ ha) with h6 | h6
     ·exact hsym a h6
     ·rw [h6]; exact h5),rfl,rfl,uc,rfl,rfl⟩
  ·obtain rfl:n=k:=by omega
   have l1:=Ym hir hir
   obtain ⟨v1,hv1⟩:=rw1.at l1
   obtain ⟨rfl,hz1⟩:=el _ _ hv1
   repeat (first|refine Qc ?_|refine Qa fun _=>?_|refine w_al fun _=>?_)
   refine sl_y (Qf sym rfl rfl rfl rfl rfl ( by omega) ((rw1.up uc sb).lt hv1) ((rw1.up uc sb).get _ _ hv1).1) rfl rfl rfl rfl ?_; refine sl_y (Qk sym rfl rfl rfl rfl (rw1.up uc sb) hv1 rfl) rfl rfl rfl rfl ?_
   repeat (first|refine Qc ?_|refine Qa fun _=>?_|refine w_al fun _=>?_)
   refine QK rfl (fun h5=>?_) (fun h5=>?_)
   ·repeat (first|refine Qc ?_|refine Qa fun _=>?_|refine w_al fun _=>?_)
    exact Qe [] sym rfl (.cons (.tmp rfl) .nil) uc sb (.inl rfl) ⟨by rw [if_pos fun h=>h5 (h i hir).2]; rfl,uc,rfl⟩
   ·repeat (first|refine Qc ?_|refine Qa fun _=>?_|refine w_al fun _=>?_)
    exact Qg (E':=[(33,.int .i64 ((i:Int)+1)),(32,.int .i64 (n:Int)),(3,.int .i64 (n:Int)),(1,.pointer (some ⟨b1,0,none⟩))]) (m:=n - (i+1)) ⟨rfl,rfl,rfl,rfl,trivial⟩ (by omega) ⟨i+1,by omega,(fun a ha=>by
     rcases Nat.lt_or_eq_of_le (Nat.le_of_lt_succ ha) with h6 | h6
     ·exact hall a h6
     ·rw [h6]; exact ⟨hsym,h5⟩),rfl,rfl,uc,rfl,rfl⟩
 obtain rfl:i=n:=by omega
 have hev:Evn i f:=hall
 rw [if_neg (fun h=>h hev)]
 have hsz:∀ a b,a < i→b < i→Szq (((f (a*i+b):Int)):Rat) 1:=fun a b ha hb=>Jx (k:=1) (by have:=hin _ (Ym ha hb); unfold Sz; omega) (by decide)
 repeat (first|refine Qc ?_|refine Qa fun _=>?_|refine w_al fun _=>?_)
 refine Qd rfl rfl rfl rfl rfl rfl (fun _=>QbB (rw1.up uc (List.nil_sublist _)) (el.up KeptC.out uc) rfl (by omega)) ?_
 rintro v3 U3 D hU3 ⟨h3v,rfl⟩
 rw [List.nil_append]
 refine Qd rfl rfl rfl rfl rfl rfl (fun _=>vW (b:=1) (h3v.w hsz) (Nat.le_refl 1) (fun k hk=>Nat.le_trans (Nat.mul_le_mul_left _ (QiI (show k≤7 by omega))) (by decide)) (by decide) (by omega)) ?_
 rintro v4 U4 D hU4 ⟨rfl,hs,-⟩
 rw [List.nil_append]
 have hsym:∀ a b,a < i→b < i→((f (a*i+b):Int):Rat)=((f (b*i+a):Int):Rat):=fun a b ha hb=>by rw [(hev a ha).1 b hb]
 obtain ⟨q,m,w,P,N,W,hS,hpm,rfl⟩:=hs hsym
 have hpd:=La.sig_pdf hsym hS
 repeat (first|refine Qc ?_|refine Qa fun _=>?_|refine w_al fun _=>?_)
 refine Qw rfl rfl (fun h=>absurd rfl h) (fun _=>?_)
 repeat (first|refine Qc ?_|refine Qa fun _=>?_|refine w_al fun _=>?_)
 refine QK rfl (fun h5=>?_) (fun h5=>?_)
 ·repeat (first|refine Qc ?_|refine Qa fun _=>?_|refine w_al fun _=>?_)
  exact Qe [] sym rfl (.cons (.tmp rfl) .nil) uc sb (.inl rfl) ⟨by rw [if_pos fun h=>h5 (by rw [hpd.2 h])]; rfl,uc,rfl⟩
 ·repeat (first|refine Qc ?_|refine Qa fun _=>?_|refine w_al fun _=>?_)
  exact Qe [] sym rfl (.cons (.tmp rfl) .nil) uc sb (.inl rfl) ⟨by rw [if_neg fun h=>h (hpd.1 (by omega))]; rfl,uc,rfl⟩
end Go.Proofs.YthnnlgjlhnmhnaaGreat

/- Walks of layer 36: determinants. -/
namespace Go.Proofs.YthnnlgjlhnmhnaaGreat
open Go.Hp
variable {G:World} {U U':UH} {M:MH}
end Go.Proofs.YthnnlgjlhnmhnaaGreat

/- Walks of layer 36: Det. -/
namespace Go.Proofs.YthnnlgjlhnmhnaaGreat
open Go.Hp
open Classical
variable {G:World} {U U':UH} {M:MH}
theorem Jm {r:Int} {N:Nat} {f:Nat→Int} (h:chk r N f=0):∃ n:Nat,r=(n:Int)∧1≤n∧n≤8∧N=n*n∧(∀ k,k < N → -1000≤f k∧f k≤1000)∧Evn n f∧Pdm n f:=by
 unfold chk at h
 by_cases h1:r < 1∨r > 8
 ·rw [if_pos h1] at h; exact absurd h (by decide)
 rw [if_neg h1] at h
 by_cases h2:(N:Int)≠r*r
 ·rw [if_pos h2] at h; exact absurd h (by decide)
 rw [if_neg h2] at h
 by_cases h3:¬ (∀ k,k < N → -1000≤f k∧f k≤1000)
 ·rw [if_pos h3] at h; exact absurd h (by decide)
 rw [if_neg h3] at h
 by_cases h4:¬ Evn r.toNat f
 ·rw [if_pos h4] at h; exact absurd h (by decide)
 rw [if_neg h4] at h
 by_cases h5:¬ Pdm r.toNat f
 ·rw [if_pos h5] at h; exact absurd h (by decide)
 obtain ⟨n,rfl⟩:∃ n:Nat,r=(n:Int):=⟨r.toNat,by omega⟩
 rw [Int.toNat_natCast] at h4 h5
 exact ⟨n,rfl,by omega,by omega,by rw [← Int.natCast_mul] at h2; omega,Classical.not_not.1 h3,Classical.not_not.1 h4,Classical.not_not.1 h5⟩
end Go.Proofs.YthnnlgjlhnmhnaaGreat

/- Walks of layer 36: inverse matrices. -/
namespace Go.Proofs.YthnnlgjlhnmhnaaGreat
open Go.Hp
variable {G:World} {U U':UH} {M:MH}
theorem QgH {n r:Nat} {A R:Nat→Nat→Rat} {p:Nat→Nat} (h:EchOf n n r A R p) (hd:La.det n A≠0):r=n:=by
 obtain ⟨r',R',p',d,hr⟩:=La.red_ex n A
 obtain ⟨rfl,-,-⟩:=h.ech.unique hr.echof.ech (h.same.trans hr.echof.same.symm)
 rcases Nat.lt_or_ge r n with h4 | h4
 ·exact absurd ((hr.rop rfl).det0 (r:=n - 1) (by omega) fun j hj=>hr.zero (n - 1) j (by omega) (by omega) hj) hd
 ·have:=h.le; omega
theorem qu {n c:Nat} {p:Option Addr} {vs:List Value} {f:Nat→Int} (rw1:RowAt U [] 1 p (n*n) vs) (el:El Vz U vs f) (hb:∀ k,k < n*n → -1000≤f k∧f k≤1000) (hp:Pdm n f) (h1n:1≤n) (hn:n≤8) :
  Ct Tryz.prog 21 [.agg #[.int .i64 (n:Int),.slice p (n*n) c]] G U M fun v U' D=>∃ X:Nat→Nat→Rat,Ls Vq 4 (n*n) U' [] v (fl n X)∧(∀ i j,i < n→j < n→La.mm n X (fun i j=>((f (i*n+j):Int):Rat)) i j=La.idm i j)∧(∀ i j,i < n→j < n→Szq (X i j) (La.gro 1 n))∧D=[]:=by
 have hnn:n*n≤8*8:=Nat.mul_le_mul hn hn
 have hsz:∀ a b,a < n→b < n→Szq (((f (a*n+b):Int)):Rat) 1:=fun a b ha hb'=>Jx (k:=1) (by have:=hb _ (Ym ha hb'); unfold Sz; omega) (by decide)
 have hg5:La.gro 1 n≤300000:=Nat.le_trans (La.gro_le hn) (by decide)
 have hg6:n*La.gro 1 n≤8*300000:=Nat.mul_le_mul hn hg5
 refine Qh Tryz.func21 rfl rfl rfl rfl ?_
 repeat (first|refine Qc ?_|refine Qa fun _=>?_|refine w_al fun _=>?_)
 rename_i b1
 refine Qd rfl rfl rfl rfl rfl rfl (fun _=>QbB (rw1.up uc (List.nil_sublist _)) (el.up KeptC.out uc) rfl (by omega)) ?_
 rintro v1 U1 D hU1 ⟨h1,rfl⟩
 rw [List.nil_append]
 refine Qd rfl rfl rfl rfl rfl rfl (fun _=>QbQ (b:=1) (h1.w hsz) (Nat.le_refl 1) (by omega) (by omega) (by omega)) ?_
 rintro v2 U2 D hU2 ⟨r,R,q,vX,e,rfl,hE,-,h2,rfl⟩
 rw [List.nil_append]
 obtain rfl:=QgH hE (fun h0=>by
  have:=hp n h1n (Nat.le_refl n)
  rw [h0] at this
  exact absurd this (by decide))
 obtain ⟨rfl,X,hX,hm,hs⟩:=h2 rfl
 obtain ⟨_,rfl,px,cx,xs,rfl,hcx,rx,ex⟩:=id hX
 repeat (first|refine Qc ?_|refine Qa fun _=>?_|refine w_al fun _=>?_)
 exact Qe [] sym rfl (.cons (.tmp rfl) .nil) uc sb (.inl rfl) ⟨X,⟨px,cx,xs,rfl,hcx,rx.up uc (List.Sublist.refl _),ex.up QF uc⟩,hm,hs,rfl⟩
end Go.Proofs.YthnnlgjlhnmhnaaGreat

/- The inverse of a form: sizes, signs; the box's sides. -/
namespace Go.Proofs.YthnnlgjlhnmhnaaGreat
open Go.Hp
variable {G:World} {U U':UH} {M:MH}
theorem QgF {q:Rat} {D z:Int} {s:Nat} (hD:D≠0) (h:(D:Rat)*q=(z:Rat)) (hz:Sz z s) (hd:Sz D s) (hs:1≤s):Szq q s:=by
 have hD0:(D:Rat)≠0:=fun h0=>hD (Rat.intCast_inj.1 (h0.trans (show (0:Rat)=((0:Int):Rat) from rfl)))
 have e:q=Rat.divInt z D:=by
  rw [Rat.divInt_eq_div,← h,Rat.mul_comm,Rat.div_def,Rat.mul_assoc,Rat.mul_inv_cancel _ hD0,Rat.mul_one]
 rw [e]
 exact jG hz hd hs
def gq (n:Nat) (f:Nat→Int):Nat→Nat→Rat:=fun i j=>((f (i*n+j):Int):Rat)
def gz (n:Nat) (f:Nat→Int):Nat→Nat→Int:=fun i j=>f (i*n+j)
structure Inv (n:Nat) (f:Nat→Int) (X:Nat→Nat→Rat):Prop where
 left:∀ i j,i < n→j < n→La.mm n X (gq n f) i j=La.idm i j
 right:∀ i j,i < n→j < n→La.mm n (gq n f) X i j=La.idm i j
 sz:∀ i j,i < n→j < n→Szq (X i j) 3
 pos:∀ i,i < n→0 < X i i
 adj:∀ i j,i < n→j < n→((Lr.det n (gz n f):Int):Rat)*X i j=((Lr.adj n (gz n f) i j:Int):Rat)
theorem QiF {n:Nat} {f:Nat→Int}:La.det n (gq n f)=((Lr.det n (gz n f):Int):Rat):=by
 have h:=Fq.hom_q.det n (gz n f)
 rw [Lr.det_la] at h
 exact h.symm
theorem Vf {n:Nat} {f:Nat→Int} (he:Evn n f) (hp:Pdm n f):(∀ i j,i < n→j < n→gq n f i j=gq n f j i)∧La.Pdf n (gq n f)∧(1≤n→0 < Lr.det n (gz n f)):=by
 have hs:∀ i j,i < n→j < n→gq n f i j=gq n f j i:=fun i j hi hj=>congrArg (fun z:Int=>(z:Rat)) ((he i hi).1 j hj)
 refine ⟨hs,La.minors_pdf hs hp,fun h1=>?_⟩
 have h2:0 < La.det n (gq n f):=hp n h1 (Nat.le_refl n)
 rw [QiF] at h2
 exact Rat.intCast_lt_intCast.1 h2
theorem QaN {n:Nat} {f:Nat→Int} {X:Nat→Nat→Rat} (hb:∀ k,k < n*n → -1000≤f k∧f k≤1000) (he:Evn n f) (hp:Pdm n f) (h1n:1≤n) (hn:n≤8) (hX:∀ i j,i < n→j < n→La.mm n X (gq n f) i j=La.idm i j):Inv n f X:=by
 obtain ⟨hs,hpd,hd⟩:=Vf he hp
 have hd:=hd h1n
 have hbb:∀ i j,i < n→j < n → -1000≤gz n f i j∧gz n f i j≤1000:=fun i j hi hj=>hb _ (Ym hi hj)
 have hr:=fun i j (hi:i < n) (hj:j < n)=>La.inv_rt (A:=gz n f) hX (by omega) hi hj
 have e3:(3000 ^ 8:Nat) < 4294967296 ^ 3:=by decide
 exact ⟨hX,hr,fun i j hi hj=>QgF (D:=Lr.det n (gz n f)) (by omega) (La.inv_adj (A:=gz n f) hX hi hj) (Nat.lt_of_le_of_lt (La.adj_bd hn hbb) e3) (Nat.lt_of_le_of_lt (La.det_bd hn hbb) e3) (by decide),
  fun i hi=>La.pos_diag hs hpd hr hi,fun i j hi hj=>La.inv_adj (A:=gz n f) hX hi hj⟩
theorem Inv.uniq {n:Nat} {f:Nat→Int} {X Y:Nat→Nat→Rat} (h:Inv n f X) (h':Inv n f Y) {i j:Nat} (hi:i < n) (hj:j < n):X i j=Y i j:=by
 have h1:La.mm n X (La.mm n (gq n f) Y) i j=X i j:=by
  show (La.sm n fun k=>X i k*La.mm n (gq n f) Y k j)=_
  rw [La.sm_one j hj fun k hk hne=>by rw [h'.right k j hk hj,show (La.idm k j:Rat)=0 from if_neg hne,Rat.mul_zero],h'.right j j hj hj,show (La.idm j j:Rat)=1 from if_pos rfl,Rat.mul_one]
 rw [← h1,← La.mm_asc]
 show (La.sm n fun k=>La.mm n X (gq n f) i k*Y k j)=_
 rw [La.sm_one i hi fun k hk hne=>by rw [h.left i k hi hk,show (La.idm i k:Rat)=0 from if_neg (Ne.symm hne),Rat.zero_mul],h.left i i hi hi,show (La.idm i i:Rat)=1 from if_pos rfl,Rat.one_mul]
noncomputable def bd (X:Nat→Nat→Rat) (m i:Nat):Nat:=Bx.isq ((((2*m:Int)):Rat)*X i i).floor.natAbs
end Go.Proofs.YthnnlgjlhnmhnaaGreat

/- Walks of layer 36: Level (begun: only the plain part). -/
namespace Go.Proofs.YthnnlgjlhnmhnaaGreat
open Go.Hp
variable {G:World} {U U':UH} {M:MH}
def dlv (n:Nat) (X:Nat→Nat→Rat) (i:Nat):Nat:=(if i / n=i % n then fl n X i*((1:Rat) / 2) else fl n X i).den
theorem Qib {d:Nat→Nat} {j:Nat}:((Fq.lv d (j+1):Nat):Int)=(Fq.lv d j:Int)*((d j:Int) / (Int.gcd (Fq.lv d j:Int) (d j:Int):Int)):=by
 show ((Fq.lv d j*(d j / Nat.gcd (Fq.lv d j) (d j)):Nat):Int)=_
 rw [Int.natCast_mul,Int.natCast_ediv]
 rfl
theorem Qiv {a b:Nat}:(b:Int) % (Int.gcd (a:Int) (b:Int):Int)=0:=Int.emod_eq_zero_of_dvd (Int.gcd_dvd_right ..)
theorem QhT {x y:QV} {p q:Rat} (hx:x.rep U M p) (hn:x.le 68719476736) (hy:y.rep U M q) (hn':y.le 68719476736) (hq:q≠0) :
  Ct Tryz.prog 45 [x.v,y.v] G U M fun v U' D=>∃ r:QV,v = .tuple #[r.v,.int .i64 0]∧r.nrm U' [] (p / q)∧D=[] :=
 (QaG hx hn hy hn').settle.mono fun _ _ _ _ ⟨h1,_,_,⟨r,e,h2,_,h3,_⟩,_,_,hs⟩=>by
  obtain ⟨rfl,h4⟩:=h3 hq
  exact ⟨r,h2,h4.sett hs,h1⟩
theorem QgG {x y:IV} {z u:Int} (hx:x.rep U M z) (hn:x.n≤1099511627776) (hy:y.rep U M u) (hn':y.n≤1099511627776) (hu:u≠0) (hz:z % u=0) :
  Ct Tryz.prog 47 [x.v,y.v] G U M fun v U' D=>∃ r:IV,v = .tuple #[r.v,.int .i64 0]∧r.nrm U' [] (z / u)∧D=[] :=
 (vc hx hn hy hn').settle.mono fun _ _ _ _ ⟨h1,_,_,⟨r,e,h2,_,_,h3,_⟩,_,_,hs⟩=>by
  obtain ⟨rfl,h4⟩:=h3 hu hz
  exact ⟨r,h2,h4.sett hs,h1⟩
end Go.Proofs.YthnnlgjlhnmhnaaGreat

/- Walk of theta.box. -/
namespace Go.Proofs.YthnnlgjlhnmhnaaGreat
open Go.Hp
variable {G:World} {U U':UH} {M:MH}
theorem Qfx {x:IV} {z:Int} (hx:x.rep U M z) (hn:x.n≤1000) (h0:0≤z) :
  Ct Tryz.prog 109 [x.v] G U M fun v U' D=>∃ (r:IV) (b:Bool),v = .tuple #[r.v,.bool b,.int .i64 0]∧r.nrm U' [] ((Bx.isq z.natAbs:Nat):Int)∧(b=true↔Bx.isq z.natAbs*Bx.isq z.natAbs=z.natAbs)∧D=[] :=
 (QhU hx hn).settle.mono fun _ _ _ _ ⟨h1,_,_,⟨r,b,e,h2,_,h3,_⟩,_,_,hs⟩=>by
  obtain ⟨rfl,R,h4,h5,h6,h7⟩:=h3 h0
  obtain rfl:=Bx.isq_at h5 h6
  exact ⟨r,b,h2,h4.sett hs,h7,h1⟩
theorem QfK {b:Nat→Nat} {i:Nat}:Bx.pre b (i+1)=Bx.pre b i*(2*b i+1):=rfl
theorem qF {b:Nat→Nat} {i n B:Nat} (hi:i < n) (h:Bx.pre b n≤B):2*b i+1≤B:=by
 have h1:=Nat.le_trans (Bx.pre_mono (show i+1≤n by omega)) h
 rw [QfK] at h1
 exact Nat.le_trans (Nat.le_mul_of_pos_left _ (Bx.pre_pos b i)) h1
def BoxO (X:Nat→Nat→Rat) (m n:Nat) (U U':UH) (D:MH) (v:Value):Prop :=
 (Bx.pre (bd X m) n≤1048576→∃ s,v = .tuple #[s,.bool true]∧Lo Vz TInt 1 n U' D s (fun i=>(bd X m i:Int))) ∧
 (1048576 < Bx.pre (bd X m) n→v = .tuple #[.slice none 0 0,.bool false]∧D=[])∧ULe U U'
theorem QhH {n c m:Nat} {p:Option Addr} {vs:List Value} {f:Nat→Int} (rw1:RowAt U [] 1 p (n*n) vs) (el:El Vz U vs f) (hb:∀ k,k < n*n → -1000≤f k∧f k≤1000) (he:Evn n f) (hp:Pdm n f) (h1n:1≤n) (hn:n≤8) (hm:m≤1000) :
  Ct Tryz.prog 66 [.agg #[.int .i64 (n:Int),.slice p (n*n) c],.int .i64 (m:Int)] G U M fun v U' D=>∃ X,Inv n f X∧BoxO X m n U U' D v:=by
 have hnn:n*n≤8*8:=Nat.mul_le_mul hn hn
 refine Qh Tryz.func66 rfl rfl rfl rfl ?_
 repeat (first|refine Qc ?_|refine Qa fun _=>?_|refine w_al fun _=>?_)
 rename_i b2
 refine Qd rfl rfl rfl rfl rfl rfl (fun _=>qu (rw1.up uc (List.nil_sublist _)) (el.up KeptC.out uc) hb hp h1n hn) ?_
 rintro v1 U1 D hU1 ⟨X,hX,hmm,-,rfl⟩
 rw [List.nil_append]
 have hI:Inv n f X:=QaN hb he hp h1n hn hmm
 obtain ⟨px,cx,xs,rfl,hcx,rx,ex⟩:=id hX
 repeat (first|refine Qc ?_|refine Qa fun _=>?_|refine w_al fun _=>?_)
 try refine Qu (M':=(b2,.var (.agg #[.int .i64 (n:Int),.slice p (n*n) c]),24)::(([])++M)) (ULe.refl _) sbk ?_
 refine Ql (fun z E U' M'=>∃ (i j:Nat) (Q:Option Addr) (C:Nat) (us:List Value) (D:MH),i≤n*n∧j=Bx.dg n i∧Bx.pre (bd X m) j≤1048576∧RowO TInt 1 D Q j C us∧El Vz U' us (fun i=>(bd X m i:Int))∧E=[(18,.int .i64 (i:Int)),(17,.int .i64 ((n*n):Int)),(16,.slice px (n*n) cx),(7,.slice Q j C),(6,.int .i64 ((Bx.pre (bd X m) j):Int)),(2,.pointer (some ⟨b2,0,none⟩)),(1,.int .i64 (m:Int))]∧ULe U1 U'∧M'=(b2,.var (.agg #[.int .i64 (n:Int),.slice p (n*n) c]),24)::(D++M)∧z=n*n - i) (n0:=n*n - 0) (E0:=[(18,.int .i64 ((0:Nat):Int)),(17,.int .i64 ((n*n):Int)),(16,.slice px (n*n) cx),(7,.slice none 0 0),(6,.int .i64 ((Bx.pre (bd X m) 0):Int)),(2,.pointer (some ⟨b2,0,none⟩)),(1,.int .i64 (m:Int))]) ⟨rfl,rfl,rfl,rfl,rfl,rfl,rfl,trivial⟩ ⟨0,0,none,0,[],[],by omega,(Bx.dg_zero n).symm,(by show 1≤1048576; decide),RowO.nil,El.nil,rfl,uc,rfl,rfl⟩ ?_
 rintro z E U2 M' ⟨i,j,Q,C,us,D,hi,hj,hpre,hrow,hel,rfl,hU2,rfl,rfl⟩
 try refine Qb ?_
 refine Qi rfl (fun h=>?_) (fun h=>?_)
 ·have hin:i < n*n:=by omega
  obtain ⟨v1,hv1⟩:=rx.at hin
  obtain ⟨x1,rfl,hx1⟩:=ex _ _ hv1
  repeat (first|refine Qc ?_|refine Qa fun _=>?_|refine w_al fun _=>?_)
  refine sl_y (Qf sym rfl rfl rfl rfl rfl rfl ((rx.up uc sb).lt hv1) ((rx.up uc sb).get _ _ hv1).1) rfl rfl rfl rfl ?_; refine sl_y (Qp sym rfl rfl rfl rfl rfl (rx.up uc sb) hv1) rfl rfl rfl rfl ?_
  repeat (first|refine Qc ?_|refine Qa fun _=>?_|refine w_al fun _=>?_)
  rename_i b9
  refine Qx [] [0,1,2,3,4,5,6,7,8] sym (by kernel_rfl) ?_
  repeat (first|refine Qc ?_|refine Qa fun _=>?_|refine w_al fun _=>?_)
  refine sl_y (VO (m:=i) (n:=n) (q:=i / n) rfl rfl rfl rfl rfl (by simp only [kmax]; omega) (by omega) rfl) rfl rfl rfl rfl ?_
  repeat (first|refine Qc ?_|refine Qa fun _=>?_|refine w_al fun _=>?_)
  refine sl_y (Vd (m:=i) (n:=n) (q:=Nat.mod i n) rfl rfl rfl rfl rfl (by simp only [kmax]; omega) (by omega) rfl) rfl rfl rfl rfl ?_
  repeat (first|refine Qc ?_|refine Qa fun _=>?_|refine w_al fun _=>?_)
  refine QK rfl (fun h9=>?_) (fun h9=>?_)
  ·have h9':¬ i / n=i % n:=fun e=>h9 (congrArg (fun z:Nat=>(z:Int)) e)
   repeat (first|refine Qc ?_|refine Qa fun _=>?_|refine w_al fun _=>?_)
   refine QU (M':=(b2,.var (.agg #[.int .i64 (n:Int),.slice p (n*n) c]),24)::(D++M)) (ULe.refl _) sbk ?_
   exact Qg (E':=[(18,.int .i64 ((i:Int)+1)),(17,.int .i64 ((n*n):Int)),(16,.slice px (n*n) cx),(7,.slice Q j C),(6,.int .i64 ((Bx.pre (bd X m) j):Int)),(2,.pointer (some ⟨b2,0,none⟩)),(1,.int .i64 (m:Int))]) (m:=n*n - (i+1)) ⟨rfl,rfl,rfl,rfl,rfl,rfl,rfl,trivial⟩ (by omega) ⟨i+1,j,Q,C,us,D,by omega,by rw [Bx.dg_next h1n hin,if_neg h9']; exact hj,hpre,hrow,hel,rfl,uc,rfl,rfl⟩
  ·have h9':i / n=i % n:=Int.ofNat.inj h9
   have hjd:j=i / n:=hj.trans (Bx.dg_diag h9')
   have hjn:j < n:=by rw [hjd]; exact (QbD hin).1
   have hfx:fl n X i=X j j:=by show X (i / n) (i % n)=_; rw [← h9',← hjd]
   rw [hfx] at hx1
   have hsx:=hI.sz j j hjn hjn
   have hpx:=hI.pos j hjn
   repeat (first|refine Qc ?_|refine Qa fun _=>?_|refine w_al fun _=>?_)
   refine Qx [12,13,14] [0,1,3,2,4,5,6,7,8,9,10,11,12,13,14] sym (by kernel_rfl) ?_
   repeat (first|refine Qc ?_|refine Qa fun _=>?_|refine w_al fun _=>?_)
   refine Qd rfl rfl rfl rfl rfl rfl (fun _=>(VU (z:=2*m) (by omega) (by omega)).settle) ?_
   rintro v Uh35 D hU ⟨rfl,_,_,⟨xh35,rfl,h35,-⟩,-,-,hs⟩
   replace h35:=h35.sett hs
   clear hs
   repeat (first|refine Qc ?_|refine Qa fun _=>?_|refine w_al fun _=>?_)
   have s35:Szq ((2*(m:Int):Int):Rat) 1:=Jx (by unfold Sz; omega) (by decide)
   refine Qd rfl rfl rfl rfl rfl rfl (fun _=>(YM (h35.rep.up uc (List.nil_sublist _)) (h35.le s35 (by decide)) (hx1.rep.up uc (List.nil_sublist _)) (hx1.le hsx (by decide))).settle) ?_
   rintro v Uh37 D hU ⟨rfl,_,_,⟨xh37,rfl,h37,-⟩,-,-,hs⟩
   replace h37:=h37.sett hs
   clear hs
   repeat (first|refine Qc ?_|refine Qa fun _=>?_|refine w_al fun _=>?_)
   have s37:=s35.mul hsx
   refine Qd rfl rfl rfl rfl rfl rfl (fun _=>QeZ (h37.rep.up uc (List.nil_sublist _)) (h37.le s37 (by decide))) ?_
   rintro v Uh38 D hU ⟨xh38,rfl,h38,rfl⟩
   repeat (first|refine Qc ?_|refine Qa fun _=>?_|refine w_al fun _=>?_)
   have s38:=QbH s37
   have hfl:0≤(((2*(m:Int):Int):Rat)*X j j).floor:=Rat.le_floor_iff.2 (Rat.mul_nonneg (Rat.intCast_le_intCast.2 (show (0:Int)≤2*m by omega)) (Rat.le_of_lt hpx))
   refine Qd rfl rfl rfl rfl rfl rfl (fun _=>Qfx (h38.rep.up uc (List.nil_sublist _)) (h38.le s38 (by decide)) hfl) ?_
   rintro v39 U39 D39 hU39 ⟨x39,b39,rfl,h39,-,rfl⟩
   rw [List.nil_append]
   obtain ⟨B,hB⟩:∃ B,B=bd X m j:=⟨_,rfl⟩
   rw [show Bx.isq (((2*(m:Int):Int):Rat)*X j j).floor.natAbs=B from hB.symm] at h39
   have s39:Sz ((B:Nat):Int) 4:=by rw [hB]; exact Nat.lt_of_le_of_lt (by rw [Int.natAbs_natCast]; exact Bx.isq_le) s38
   repeat (first|refine Qc ?_|refine Qa fun _=>?_|refine w_al fun _=>?_)
   rename_i b10
   refine Qd rfl rfl rfl rfl rfl rfl (fun _=>Qcl (h39.rep.up uc (List.nil_sublist _)) (h39.le s39 (by decide))) ?_
   rintro v40 U40 D40 hU40 ⟨rfl,rfl,rfl⟩
   rw [List.nil_append]
   by_cases hr : -9223372036854775808≤(B:Int)∧(B:Int)≤9223372036854775807
   ·rw [(qX hr).1,(qX hr).2]
    repeat (first|refine Qc ?_|refine Qa fun _=>?_|refine w_al fun _=>?_)
    refine Qi rfl (fun h5=>?_) (fun h5=>?_)
    ·have hbig:1048576 < Bx.pre (bd X m) n:=by
      rcases Nat.lt_or_ge 1048576 (Bx.pre (bd X m) n) with h6 | h6
      ·exact h6
      ·have:=qF hjn h6; omega
     repeat (first|refine Qc ?_|refine Qa fun _=>?_|refine w_al fun _=>?_)
     exact Qe [] sym rfl (.cons (.tmp rfl) (.cons (.tmp rfl) .nil)) uc sb (.inl rfl) ⟨X,hI,fun h6=>by omega,fun _=>⟨rfl,rfl⟩,uc⟩
    ·have hB0:B≤1048576:=by omega
     have hpm:Bx.pre (bd X m) j*(2*B+1)≤1048576*2097153:=Nat.mul_le_mul hpre (by omega)
     have hps:Bx.pre (bd X m) (j+1)=Bx.pre (bd X m) j*(2*B+1):=by rw [hB]; rfl
     have hpi:((Bx.pre (bd X m) j:Nat):Int)*(2*(B:Int)+1)=((Bx.pre (bd X m) j*(2*B+1):Nat):Int):=by rw [Int.natCast_mul]; rfl
     repeat (first|refine Qc ?_|refine Qa fun _=>?_|refine w_al fun _=>?_)
     refine Qi rfl (fun h7=>?_) (fun h7=>?_)
     ·have hbig:1048576 < Bx.pre (bd X m) n:=by
       have h8:=Bx.pre_mono (b:=bd X m) (show j+1≤n by omega)
       rw [hps] at h8
       rw [hpi] at h7
       omega
      repeat (first|refine Qc ?_|refine Qa fun _=>?_|refine w_al fun _=>?_)
      exact Qe [] sym rfl (.cons (.tmp rfl) (.cons (.tmp rfl) .nil)) uc sb (.inl rfl) ⟨X,hI,fun h6=>by omega,fun _=>⟨rfl,rfl⟩,uc⟩
     ·rw [hpi] at h7
      have hp1:Bx.pre (bd X m) (j+1)≤1048576:=by rw [hps]; omega
      rw [hpi,← hps]
      try refine Qb ?_
      refine Ye hrow (X:=(b10,.var x39.v,46)::(b9,.var x1.v,TR)::(b2,.var (.agg #[.int .i64 (n:Int),.slice p (n*n) c]),24)::M) pgs (fun b P2 C2 D2 hr2=>?_)
      refine Qj (M':=(b10,.var x39.v,46)::(b9,.var x1.v,TR)::(b2,.var (.agg #[.int .i64 (n:Int),.slice p (n*n) c]),24)::(D2++M)) ?_ pgs
      try refine Qb ?_
      refine QU (M':=(b2,.var (.agg #[.int .i64 (n:Int),.slice p (n*n) c]),24)::(D2++M)) (ULe.refl _) sbk ?_
      exact Qg (E':=[(18,.int .i64 ((i:Int)+1)),(17,.int .i64 ((n*n):Int)),(16,.slice px (n*n) cx),(7,.slice P2 (j+1) C2),(6,.int .i64 ((Bx.pre (bd X m) (j+1)):Int)),(2,.pointer (some ⟨b2,0,none⟩)),(1,.int .i64 (m:Int))]) (m:=n*n - (i+1)) ⟨rfl,rfl,rfl,rfl,rfl,rfl,rfl,trivial⟩ (by omega) ⟨i+1,j+1,P2,C2,_,D2,by omega,by rw [Bx.dg_next h1n hin,if_pos h9',← hj],hp1,hr2,JV hrow.len.1 hel ⟨by rw [hB],by omega,by omega⟩,rfl,uc,rfl,rfl⟩
   ·rw [(YJ hr).1,(YJ hr).2]
    have hbig:1048576 < Bx.pre (bd X m) n:=by
     rcases Nat.lt_or_ge 1048576 (Bx.pre (bd X m) n) with h6 | h6
     ·exact h6
     ·have:=qF hjn h6; omega
    repeat (first|refine Qc ?_|refine Qa fun _=>?_|refine w_al fun _=>?_)
    exact Qe [] sym rfl (.cons (.tmp rfl) (.cons (.tmp rfl) .nil)) uc sb (.inl rfl) ⟨X,hI,fun h6=>by omega,fun _=>⟨rfl,rfl⟩,uc⟩
 ·obtain rfl:n*n=i:=by omega
  have hjn:j=n:=by rw [hj,Bx.dg_full h1n]
  subst hjn
  repeat (first|refine Qc ?_|refine Qa fun _=>?_|refine w_al fun _=>?_)
  exact Qe D sym rfl (.cons (.tmp rfl) (.cons (.tmp rfl) .nil)) uc sb (.inl rfl) ⟨X,hI,fun _=>⟨_,rfl,Q,C,us,rfl,hrow,hel⟩,fun h6=>by omega,uc⟩
end Go.Proofs.YthnnlgjlhnmhnaaGreat

/- Walk of theta.Level (under way). -/
namespace Go.Proofs.YthnnlgjlhnmhnaaGreat
open Go.Hp
open Classical
variable {G:World} {U U':UH} {M:MH}
theorem QfW:Szq ((1:Rat) / 2) 2:=(Jx (z:=1) (k:=1) (by unfold Sz; decide) (by decide)).div (Jx (z:=2) (k:=1) (by unfold Sz; decide) (by decide))
theorem QeK {r:Int} {N c:Nat} {p:Option Addr} {vs:List Value} {f:Nat→Int} (rw1:RowAt U [] 1 p N vs) (el:El Vz U vs f) (hN:N≤9223372036854775807) :
  Ct Tryz.prog 16 [.agg #[.int .i64 r,.slice p N c]] G U M fun v U' D=>(chk r N f≠0→v = .tuple #[.int .i64 0,.int .i64 (chk r N f)])∧(∀ n:Nat,r=(n:Int)→chk r N f=0→∃ X:Nat→Nat→Rat,(∀ i j,i < n→j < n→La.mm n X (fun i j=>((f (i*n+j):Int):Rat)) i j=La.idm i j) ∧
   v=if Fq.lv (dlv n X) (n*n)≤600 then .tuple #[.int .i64 (Fq.lv (dlv n X) (n*n):Int),.int .i64 0] else .tuple #[.int .i64 0,.int .i64 7])∧D=[]:=by
 refine Qh Tryz.func16 rfl rfl rfl rfl ?_
 repeat (first|refine Qc ?_|refine Qa fun _=>?_|refine w_al fun _=>?_)
 rename_i b1
 refine Qd rfl rfl rfl rfl rfl rfl (fun _=>qz (rw1.up uc (List.nil_sublist _)) (el.up KeptC.out uc) hN) ?_
 rintro v1 U1 D hU1 ⟨rfl,-,rfl⟩
 rw [List.nil_append]
 repeat (first|refine Qc ?_|refine Qa fun _=>?_|refine w_al fun _=>?_)
 refine QK rfl (fun h=>?_) (fun h=>?_)
 ·repeat (first|refine Qc ?_|refine Qa fun _=>?_|refine w_al fun _=>?_)
  exact Qe [] sym rfl (.cons (.tmp rfl) (.cons (.tmp rfl) .nil)) uc sb (.inl rfl) ⟨fun _=>rfl,fun _ _ h0=>absurd h0 h,rfl⟩
 obtain ⟨n,rfl,hn1,hn8,rfl,hb,he,hp⟩:=Jm h
 repeat (first|refine Qc ?_|refine Qa fun _=>?_|refine w_al fun _=>?_)
 refine Qd rfl rfl rfl rfl rfl rfl (fun _=>(VY (z:=1) (by decide) (by decide)).settle) ?_
 rintro v Uh5 D hU ⟨rfl,_,_,⟨xh5,rfl,h5,-⟩,-,-,hs⟩
 replace h5:=h5.sett hs
 clear hs
 repeat (first|refine Qc ?_|refine Qa fun _=>?_|refine w_al fun _=>?_)
 rename_i b5
 repeat (first|refine Qc ?_|refine Qa fun _=>?_|refine w_al fun _=>?_)
 refine Qd rfl rfl rfl rfl rfl rfl (fun _=>(VU (z:=1) (by decide) (by decide)).settle) ?_
 rintro v Uh6 D hU ⟨rfl,_,_,⟨xh6,rfl,h6,-⟩,-,-,hs⟩
 replace h6:=h6.sett hs
 clear hs
 repeat (first|refine Qc ?_|refine Qa fun _=>?_|refine w_al fun _=>?_)
 refine Qd rfl rfl rfl rfl rfl rfl (fun _=>(VU (z:=2) (by decide) (by decide)).settle) ?_
 rintro v Uh7 D hU ⟨rfl,_,_,⟨xh7,rfl,h7,-⟩,-,-,hs⟩
 replace h7:=h7.sett hs
 clear hs
 repeat (first|refine Qc ?_|refine Qa fun _=>?_|refine w_al fun _=>?_)
 have t1:Szq ((1:Int):Rat) 1:=Jx (by unfold Sz; decide) (by decide)
 have t2:Szq ((2:Int):Rat) 1:=Jx (by unfold Sz; decide) (by decide)
 refine Qd rfl rfl rfl rfl rfl rfl (fun _=>QhT (h6.rep.up uc (List.nil_sublist _)) (h6.le t1 (by decide)) (h7.rep.up uc (List.nil_sublist _)) (h7.le t2 (by decide)) (by decide)) ?_
 rintro v2 U2 D hU2 ⟨xq,rfl,hq,rfl⟩
 rw [List.nil_append]
 repeat (first|refine Qc ?_|refine Qa fun _=>?_|refine w_al fun _=>?_)
 rename_i b6
 refine Qd rfl rfl rfl rfl rfl rfl (fun _=>qu (rw1.up uc (List.nil_sublist _)) (el.up KeptC.out uc) hb hp hn1 hn8) ?_
 rintro v3 U3 D hU3 ⟨X,hX,hm,hs,rfl⟩
 rw [List.nil_append]
 obtain ⟨px,cx,xs,rfl,hcx,rx,ex⟩:=id hX
 repeat (first|refine Qc ?_|refine Qa fun _=>?_|refine w_al fun _=>?_)
 have hnn:n*n≤8*8:=Nat.mul_le_mul hn8 hn8
 have hg5:La.gro 1 n≤300000:=Nat.le_trans (La.gro_le hn8) (by decide)
 have hsX:∀ i,i < n*n→Szq (fl n X i) 300000:=fun i hi=>(hs _ _ (QbD hi).1 (QbD hi).2).mono hg5
 try refine Qu (M':=(b6,.var xq.v,TR)::(b5,.var xh5.v,46)::(b1,.var (.agg #[.int .i64 (n:Int),.slice p (n*n) c]),24)::M) (ULe.refl _) sbk ?_
 refine Ql (fun z E U' M'=>∃ (i:Nat) (xl:IV),i≤n*n∧xl.nrm U' [] ((Fq.lv (dlv n X) i:Nat):Int)∧Sz ((Fq.lv (dlv n X) i:Nat):Int) (300010*i+1)∧E=[(30,.int .i64 (i:Int)),(29,.int .i64 ((n*n):Int)),(28,.slice px (n*n) cx),(6,.pointer (some ⟨b6,0,none⟩)),(5,.pointer (some ⟨b5,0,none⟩)),(1,.pointer (some ⟨b1,0,none⟩))]∧ULe U3 U'∧M'=(b6,.var xq.v,TR)::(b5,.var xl.v,46)::(b1,.var (.agg #[.int .i64 (n:Int),.slice p (n*n) c]),24)::M∧z=n*n - i) (n0:=n*n - 0) (E0:=[(30,.int .i64 ((0:Nat):Int)),(29,.int .i64 ((n*n):Int)),(28,.slice px (n*n) cx),(6,.pointer (some ⟨b6,0,none⟩)),(5,.pointer (some ⟨b5,0,none⟩)),(1,.pointer (some ⟨b1,0,none⟩))]) ⟨rfl,rfl,rfl,rfl,rfl,rfl,trivial⟩ ⟨0,xh5,by omega,h5.up uc (List.Sublist.refl _),Sz.mono (show Sz ((1:Nat):Int) 1 by unfold Sz; decide) (by omega),rfl,uc,rfl,rfl⟩ ?_
 rintro z E U4 M' ⟨i,xl,hi,hxl,hsl,rfl,hU4,rfl,rfl⟩
 try refine Qb ?_
 refine Qi rfl (fun h8=>?_) (fun h8=>?_)
 ·have hin:i < n*n:=by omega
  obtain ⟨v1,hv1⟩:=rx.at hin
  obtain ⟨x1,rfl,hx1⟩:=ex _ _ hv1
  repeat (first|refine Qc ?_|refine Qa fun _=>?_|refine w_al fun _=>?_)
  refine sl_y (Qf sym rfl rfl rfl rfl rfl rfl ((rx.up uc sb).lt hv1) ((rx.up uc sb).get _ _ hv1).1) rfl rfl rfl rfl ?_; refine sl_y (Qp sym rfl rfl rfl rfl rfl (rx.up uc sb) hv1) rfl rfl rfl rfl ?_
  repeat (first|refine Qc ?_|refine Qa fun _=>?_|refine w_al fun _=>?_)
  rename_i b9
  refine Qx [] [0,1,2,3,4,5,6,7,8] sym (by kernel_rfl) ?_
  repeat (first|refine Qc ?_|refine Qa fun _=>?_|refine w_al fun _=>?_)
  refine sl_y (VO (m:=i) (n:=n) (q:=i / n) rfl rfl rfl rfl rfl (by simp only [kmax]; omega) (by omega) rfl) rfl rfl rfl rfl ?_
  repeat (first|refine Qc ?_|refine Qa fun _=>?_|refine w_al fun _=>?_)
  refine sl_y (Vd (m:=i) (n:=n) (q:=Nat.mod i n) rfl rfl rfl rfl rfl (by simp only [kmax]; omega) (by omega) rfl) rfl rfl rfl rfl ?_
  repeat (first|refine Qc ?_|refine Qa fun _=>?_|refine w_al fun _=>?_)
  obtain ⟨xi,hxi⟩:∃ xi,xi=fl n X i:=⟨_,rfl⟩
  obtain ⟨yi,hyi⟩:∃ yi,yi=if i / n=Nat.mod i n then fl n X i*((1:Rat) / 2) else fl n X i:=⟨_,rfl⟩
  refine Qhz (fun E U' M'=>∃ (y:QV),y.nrm U' [] yi∧E=[(30,.int .i64 (i:Int)),(29,.int .i64 ((n*n):Int)),(28,.slice px (n*n) cx),(9,.pointer (some ⟨b9,0,none⟩)),(6,.pointer (some ⟨b6,0,none⟩)),(5,.pointer (some ⟨b5,0,none⟩)),(1,.pointer (some ⟨b1,0,none⟩))]∧ULe U4 U'∧M'=(b9,.var y.v,TR)::(b6,.var xq.v,TR)::(b5,.var xl.v,46)::(b1,.var (.agg #[.int .i64 (n:Int),.slice p (n*n) c]),24)::M) ?_ ?_
  ·refine Qi rfl (fun h9=>?_) (fun h9=>?_)
   ·have h9':i / n=Nat.mod i n:=by omega
    rw [if_pos h9'] at hyi
    repeat (first|refine Qc ?_|refine Qa fun _=>?_|refine w_al fun _=>?_)
    refine Qd rfl rfl rfl rfl rfl rfl (fun _=>(YM (hx1.rep.up uc (List.nil_sublist _)) (hx1.le (hsX _ hin) (by decide)) (hq.rep.up uc (List.nil_sublist _)) (hq.le (t1.div t2) (by decide))).settle) ?_
    rintro v Uh9 D hU ⟨rfl,_,_,⟨xh9,rfl,h9,-⟩,-,-,hs⟩
    replace h9:=h9.sett hs
    clear hs
    repeat (first|refine Qc ?_|refine Qa fun _=>?_|refine w_al fun _=>?_)
    exact Qn (E':=[(30,.int .i64 (i:Int)),(29,.int .i64 ((n*n):Int)),(28,.slice px (n*n) cx),(9,.pointer (some ⟨b9,0,none⟩)),(6,.pointer (some ⟨b6,0,none⟩)),(5,.pointer (some ⟨b5,0,none⟩)),(1,.pointer (some ⟨b1,0,none⟩))]) ⟨rfl,rfl,rfl,rfl,rfl,rfl,rfl,trivial⟩ ⟨xh9,by rw [hyi]; exact h9.up uc (List.Sublist.refl _),rfl,uc,rfl⟩
   ·have h9':¬ i / n=Nat.mod i n:=by omega
    rw [if_neg h9'] at hyi
    repeat (first|refine Qc ?_|refine Qa fun _=>?_|refine w_al fun _=>?_)
    exact Qn (E':=[(30,.int .i64 (i:Int)),(29,.int .i64 ((n*n):Int)),(28,.slice px (n*n) cx),(9,.pointer (some ⟨b9,0,none⟩)),(6,.pointer (some ⟨b6,0,none⟩)),(5,.pointer (some ⟨b5,0,none⟩)),(1,.pointer (some ⟨b1,0,none⟩))]) ⟨rfl,rfl,rfl,rfl,rfl,rfl,rfl,trivial⟩ ⟨x1,by rw [hyi]; exact hx1.up uc (List.Sublist.refl _),rfl,uc,rfl⟩
  rintro E U5 M' ⟨y,hy,rfl,hU5,rfl⟩
  have hyd:yi.den=dlv n X i:=by rw [hyi]; rfl
  have hys:Szq yi 300002:=by
   rw [hyi]
   split
   ·exact ((hsX _ hin).mul QfW).mono (by decide)
   ·exact (hsX _ hin).mono (by decide)
  clear hyi
  repeat (first|refine Qc ?_|refine Qa fun _=>?_|refine w_al fun _=>?_)
  refine Qd rfl rfl rfl rfl rfl rfl (fun _=>(Ys (hy.rep.up uc (List.nil_sublist _)) (hy.le hys (by decide))).settle) ?_
  rintro v Uh11 D hU ⟨rfl,_,_,⟨xh11,rfl,h11,-⟩,-,-,hs⟩
  replace h11:=h11.sett hs
  clear hs
  repeat (first|refine Qc ?_|refine Qa fun _=>?_|refine w_al fun _=>?_)
  refine Qfh (r:=xh11.den.v) ?_
  repeat (first|refine Qc ?_|refine Qa fun _=>?_|refine w_al fun _=>?_)
  rename_i b10
  refine Qx [9,10] [0,1,2,3,4,5,6,7,8,9,10] sym (by kernel_rfl) ?_
  repeat (first|refine Qc ?_|refine Qa fun _=>?_|refine w_al fun _=>?_)
  have sd:Sz ((yi.den:Nat):Int) 300002:=hys.2
  have sl:=hsl
  have hgz:(Int.gcd ((Fq.lv (dlv n X) i:Nat):Int) ((yi.den:Nat):Int):Int)≠0:=by
   have:=Nat.gcd_pos_of_pos_right (Fq.lv (dlv n X) i) yi.den_pos
   show ((Nat.gcd (Fq.lv (dlv n X) i) yi.den:Nat):Int)≠0
   omega
  have sg:Sz (Int.gcd ((Fq.lv (dlv n X) i:Nat):Int) ((yi.den:Nat):Int):Int) 300002:=Nat.lt_of_le_of_lt (show ((Nat.gcd (Fq.lv (dlv n X) i) yi.den:Nat):Int).natAbs≤(((yi.den:Nat):Int)).natAbs by rw [Int.natAbs_natCast,Int.natAbs_natCast]; exact Nat.le_of_dvd yi.den_pos (Nat.gcd_dvd_right ..)) sd
  refine Qd rfl rfl rfl rfl rfl rfl (fun _=>(Qgv (hxl.rep.up uc (List.nil_sublist _)) (hxl.le hsl (by omega)) (h11.2.rep.up uc (List.nil_sublist _)) (h11.2.le sd (by omega))).settle) ?_
  rintro v Uh54 D hU ⟨rfl,_,_,⟨xh54,rfl,h54,-⟩,-,-,hs⟩
  replace h54:=h54.sett hs
  clear hs
  repeat (first|refine Qc ?_|refine Qa fun _=>?_|refine w_al fun _=>?_)
  refine Qd rfl rfl rfl rfl rfl rfl (fun _=>QgG (h11.2.rep.up uc (List.nil_sublist _)) (h11.2.le sd (by omega)) (h54.rep.up uc (List.nil_sublist _)) (h54.le sg (by omega)) hgz Qiv) ?_
  rintro v55 U55 D55 hU55 ⟨x55,rfl,h55,rfl⟩
  rw [List.nil_append]
  repeat (first|refine Qc ?_|refine Qa fun _=>?_|refine w_al fun _=>?_)
  have ed:((Fq.lv (dlv n X) i:Nat):Int)*(((yi.den:Nat):Int) / (Int.gcd ((Fq.lv (dlv n X) i:Nat):Int) ((yi.den:Nat):Int):Int))=((Fq.lv (dlv n X) (i+1):Nat):Int):=by rw [hyd]; exact Qib.symm
  have sq:Sz (((yi.den:Nat):Int) / (Int.gcd ((Fq.lv (dlv n X) i:Nat):Int) ((yi.den:Nat):Int):Int)) 300002:=by
   refine Nat.lt_of_le_of_lt ?_ sd
   show (((yi.den:Nat):Int) / ((Nat.gcd (Fq.lv (dlv n X) i) yi.den:Nat):Int)).natAbs≤_
   rw [← Int.natCast_ediv,Int.natAbs_natCast,Int.natAbs_natCast]
   exact Nat.div_le_self ..
  refine Qd rfl rfl rfl rfl rfl rfl (fun _=>(YL (hxl.rep.up uc (List.nil_sublist _)) (hxl.le hsl (by omega)) (h55.rep.up uc (List.nil_sublist _)) (h55.le sq (by omega))).settle) ?_
  rintro v Uh60 D hU ⟨rfl,_,_,⟨xh60,rfl,h60,-⟩,-,-,hs⟩
  replace h60:=h60.sett hs
  clear hs
  repeat (first|refine Qc ?_|refine Qa fun _=>?_|refine w_al fun _=>?_)
  rw [ed] at h60
  have s60:=hsl.mul sq
  rw [ed] at s60
  refine QU (M':=(b6,.var xq.v,TR)::(b5,.var xh60.v,46)::(b1,.var (.agg #[.int .i64 (n:Int),.slice p (n*n) c]),24)::M) (ULe.refl _) sbk ?_
  exact Qg (E':=[(30,.int .i64 ((i:Int)+1)),(29,.int .i64 ((n*n):Int)),(28,.slice px (n*n) cx),(6,.pointer (some ⟨b6,0,none⟩)),(5,.pointer (some ⟨b5,0,none⟩)),(1,.pointer (some ⟨b1,0,none⟩))]) (m:=n*n - (i+1)) ⟨rfl,rfl,rfl,rfl,rfl,rfl,trivial⟩ (by omega) ⟨i+1,xh60,by omega,h60.up uc (List.Sublist.refl _),s60.mono (by rw [Nat.mul_add]; omega),rfl,uc,rfl,rfl⟩
 ·obtain rfl:n*n=i:=by omega
  obtain ⟨Lv,hL⟩:∃ Lv,Lv=Fq.lv (dlv n X) (n*n):=⟨_,rfl⟩
  rw [← hL] at hxl hsl
  repeat (first|refine Qc ?_|refine Qa fun _=>?_|refine w_al fun _=>?_)
  refine Qd rfl rfl rfl rfl rfl rfl (fun _=>Qcl (hxl.rep.up uc (List.nil_sublist _)) (hxl.le hsl (by omega))) ?_
  rintro v40 U40 D40 hU40 ⟨rfl,rfl,rfl⟩
  rw [List.nil_append]
  have hfin:∀ (v:Value),(v=if Lv≤600 then .tuple #[.int .i64 (Lv:Int),.int .i64 0] else .tuple #[.int .i64 0,.int .i64 7])→((0:Int)≠0→v = .tuple #[.int .i64 0,.int .i64 0])∧(∀ n':Nat,(n:Int)=(n':Int)→(0:Int)=0→∃ X:Nat→Nat→Rat,(∀ i j,i < n'→j < n'→La.mm n' X (fun i j=>((f (i*n'+j):Int):Rat)) i j=La.idm i j) ∧
   v=if Fq.lv (dlv n' X) (n'*n')≤600 then .tuple #[.int .i64 (Fq.lv (dlv n' X) (n'*n'):Int),.int .i64 0] else .tuple #[.int .i64 0,.int .i64 7]):=fun v hv=>by
   refine ⟨fun h=>absurd rfl h,fun n' hn' _=>?_⟩
   obtain rfl:n=n':=Int.ofNat.inj hn'
   exact ⟨X,hm,by rw [← hL]; exact hv⟩
  rw [h]
  by_cases hr : -9223372036854775808≤(Lv:Int)∧(Lv:Int)≤9223372036854775807
  ·rw [(qX hr).1,(qX hr).2]
   repeat (first|refine Qc ?_|refine Qa fun _=>?_|refine w_al fun _=>?_)
   refine Qi rfl (fun h5=>?_) (fun h5=>?_)
   ·repeat (first|refine Qc ?_|refine Qa fun _=>?_|refine w_al fun _=>?_)
    exact Qe [] sym rfl (.cons (.tmp rfl) (.cons (.tmp rfl) .nil)) uc sb (.inl rfl) ⟨(hfin (tup [.int .i64 0,.int .i64 7]) (if_neg (by omega)).symm).1,(hfin (tup [.int .i64 0,.int .i64 7]) (if_neg (by omega)).symm).2,rfl⟩
   ·repeat (first|refine Qc ?_|refine Qa fun _=>?_|refine w_al fun _=>?_)
    exact Qe [] sym rfl (.cons (.tmp rfl) (.cons (.tmp rfl) .nil)) uc sb (.inl rfl) ⟨(hfin (tup [.int .i64 (Lv:Int),.int .i64 0]) (if_pos (by omega)).symm).1,(hfin (tup [.int .i64 (Lv:Int),.int .i64 0]) (if_pos (by omega)).symm).2,rfl⟩
  ·rw [(YJ hr).1,(YJ hr).2]
   repeat (first|refine Qc ?_|refine Qa fun _=>?_|refine w_al fun _=>?_)
   exact Qe [] sym rfl (.cons (.tmp rfl) (.cons (.tmp rfl) .nil)) uc sb (.inl rfl) ⟨(hfin (tup [.int .i64 0,.int .i64 7]) (if_neg (by omega)).symm).1,(hfin (tup [.int .i64 0,.int .i64 7]) (if_neg (by omega)).symm).2,rfl⟩
end Go.Proofs.YthnnlgjlhnmhnaaGreat
