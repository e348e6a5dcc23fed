/- Copies of matrices: the elements as they are. -/
import Derived.Test.YtahcddpdgpjbnaaB305
import Derived.Test.YtahcddpdgpjbnaaB306
import Derived.Test.YtahcddpdgpjbnaaB82
namespace Go.Proofs.Ytahcddpdgpjbnaa
open Go.Hp
variable {G:World} {U U':UH} {M M':MH}
abbrev FQx:=(Bool × List Nat) × Bool × List Nat
structure Exq (M:MH) (U:UH) (x:QV) (k:FQx):Prop where
 s1:x.num.neg=k.1.1
 d1:Dig U M x.num.p x.num.n x.num.c k.1.2
 s2:x.den.neg=k.2.1
 d2:Dig U M x.den.p x.den.n x.den.c k.2.2
def Exv (M:MH) (U:UH) (v:Value) (k:FQx):Prop:=∃ x:QV,v=x.v∧Exq M U x k
theorem Exv.up {v:Value} {k:FQx} (h:Exv M U v k) (hU:ULe U U') (hM:M.Sublist M'):Exv M' U' v k:=by
 obtain ⟨x,h1,h2,h3,h4,h5⟩:=h
 exact ⟨x,h1,h2,h3.up hU hM,h4,h5.up hU hM⟩
theorem JV {vs:List Value} {L:Nat→FQx} (h:El (Exv M) U vs L) (hU:ULe U U') (hM:M.Sublist M'):El (Exv M') U' vs L:=fun k x hk=>(h k x hk).up hU hM
set_option maxHeartbeats 1000000 in
theorem yl {n c:Nat} {p:Option Addr} {vs:List Value} {L:Nat→FQx} (rw1:RowAt U M 4 p n vs) (el:El (Exv M) U vs L) (hl:∀ k,k < n→(L k).1.2.length≤1000000∧(L k).2.2.length≤1000000) (hn:n≤1000000) :
  Ct Try.prog 22 [.slice p n c] G U M fun v U' D=>∃ (p':Option Addr) (c':Nat) (vs':List Value) (Da Dd:MH),v = .slice p' n c'∧D=Da++Dd∧RowO TR 4 Da p' n c' vs'∧(∀ U2,El (Exv Dd) U2 vs' L)∧U=U':=by
 refine Qf Try.func22 rfl rfl rfl rfl ?_
 repeat (first|refine Qc ?_|refine Qb fun _=>?_|refine w_al fun _=>?_)
 refine Qm (fun m E U' M'=>∃ (i:Nat) (p':Option Addr) (c':Nat) (us:List Value) (Da Dd:MH),i≤n∧RowO TR 4 Da p' i c' us∧(∀ U2,El (Exv Dd) U2 us L)∧E=[(3,.slice p' i c'),(4,.int .i64 (i:Int)),(0,.slice p n c)]∧U=U'∧M'=Da++(Dd++M)∧m=n - i) (n0:=n)
  (E0:=[(3,.slice none 0 0),(4,.int .i64 ((0:Nat):Int)),(0,.slice p n c)]) ⟨rfl,rfl,rfl,trivial⟩ ⟨0,none,0,[],[],[],by omega,RowO.nil,(fun _=>El.nil),rfl,rfl,rfl,rfl⟩ ?_
 rintro m E U' M' ⟨i,p',c',us,Da,Dd,hi,hrow,hel,rfl,rfl,rfl,rfl⟩
 try refine Qa ?_
 refine Qk rfl (fun h=>?_) (fun h=>?_)
 ·have hin:i < n:=by omega
  obtain ⟨v1,hv1⟩:=rw1.at hin
  obtain ⟨x,rfl,hx⟩:=el _ _ hv1
  obtain ⟨l1,l2⟩:=hl i hin
  have n1:=hx.d1.len
  have n2:=hx.d2.len
  try refine Qa ?_
  refine sl_y (Qj sym rfl rfl rfl rfl rfl rfl ((rw1.up uc sb).lt hv1) ((rw1.up uc sb).get _ _ hv1).1) rfl rfl rfl rfl ?_; refine sl_y (Qu sym rfl rfl rfl rfl rfl (rw1.up uc sb) hv1) rfl rfl rfl rfl ?_
  try refine Qa ?_
  refine Qd rfl rfl rfl rfl rfl rfl (fun _=>yZ (x:=x) (hx.d1.up (ULe.refl _) sb) (by omega) (hx.d2.up (ULe.refl _) sb) (by omega)) ?_
  rintro v2 U2 D2 hU2 ⟨q1,e1,q2,e2,rfl,hd,rfl⟩
  refine Qg (M':=Da++((D2++Dd)++M)) ?_ pm
  try refine Qa ?_
  refine yw hrow (List.Perm.refl _) (fun b5 p5 c5 D5 hr5=>?_)
  try refine Qa ?_
  refine Qi (E':=[(3,.slice p5 (i+1) c5),(4,.int .i64 ((i:Int)+1)),(0,.slice p n c)]) (m:=n - (i+1)) ⟨rfl,rfl,rfl,trivial⟩ (by omega)
   ⟨i+1,p5,c5,_,D5,D2++Dd,by omega,hr5,(fun U2=>yr hrow.len.1 (JV (hel U2) (ULe.refl _) (List.sublist_append_right ..)) ⟨_,rfl,hx.s1,(hd U2 Dd).1,hx.s2,(hd U2 Dd).2⟩),rfl,rfl,rfl,rfl⟩
 ·try refine Qa ?_
  have e:i=n:=by omega
  subst e
  exact Qe (Da++Dd) sym rfl (.cons (.tmp rfl) .nil) uc sb (.inl rfl) ⟨p',c',us,Da,Dd,rfl,rfl,hrow,hel,rfl⟩
theorem YV {r c:Int} {n cc:Nat} {p:Option Addr} {vs:List Value} {L:Nat→FQx} (rw1:RowAt U M 4 p n vs) (el:El (Exv M) U vs L) (hl:∀ k,k < n→(L k).1.2.length≤1000000∧(L k).2.2.length≤1000000) (hn:n≤1000000) :
  Ct Try.prog 6 [.agg #[.int .i64 r,.int .i64 c,.slice p n cc]] G U M fun v U' D=>∃ (p':Option Addr) (c':Nat) (vs':List Value) (Da Dd:MH),v = .agg #[.int .i64 r,.int .i64 c,.slice p' n c']∧D=Da++Dd∧RowO TR 4 Da p' n c' vs'∧(∀ U2,El (Exv Dd) U2 vs' L)∧U=U':=by
 refine Qf Try.func6 rfl rfl rfl rfl ?_
 repeat (first|refine Qc ?_|refine Qb fun _=>?_|refine w_al fun _=>?_)
 rename_i b1 b2
 refine QH [7,8] [0,1,2,3,4,5,6,7,8] sym (by kernel_rfl) ?_
 repeat (first|refine Qc ?_|refine Qb fun _=>?_|refine w_al fun _=>?_)
 refine Qd rfl rfl rfl rfl rfl rfl (fun _=>yl (rw1.up uc sb) (JV el uc sb) hl hn) ?_
 rintro v1 U1 D1 hU1 ⟨p',c',vs',Da,Dd,rfl,rfl,hrow,hel,rfl⟩
 refine Qg ?_ (perm2 (D:=Da++Dd))
 repeat (first|refine Qc ?_|refine Qb fun _=>?_|refine w_al fun _=>?_)
 exact Qe (Da++Dd) sym rfl (.cons (.cell 0 rfl rfl rfl) .nil) uc sb (.inl rfl) ⟨p',c',vs',Da,Dd,rfl,rfl,hrow,hel,rfl⟩
end Go.Proofs.Ytahcddpdgpjbnaa
