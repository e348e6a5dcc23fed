/- Texts of this seat's own, merged: each begins with its own remark. -/
import Derived.Test.YthnnlgjlhnmhnaaGreatM1
import Derived.Test.YthnnlgjlhnmhnaaGreatM9
import Derived.Test.YthnnlgjlhnmhnaaGreatB38
/- A region that draws its order, of which several pairs of operations may come up in either order without being exchangeable: a tree of walks. Program in general; no condition. -/
namespace Go.Hp
variable {P:Program} {T:TT} {K:Kont} {N:Nat} {G:World} {E:Env} {U:UH} {M:MH} {L:List Oper}
inductive DT where
 | leaf (ord:List Nat)
 | node (x y:Nat) (l r:DT)
end Go.Hp

/- The plain law of the extended Euclidean algorithm. -/
namespace Go.Proofs.YthnnlgjlhnmhnaaGreat
open Go.Hp
end Go.Proofs.YthnnlgjlhnmhnaaGreat

/- Walks of bigint: the extended Euclidean algorithm. -/
namespace Go.Proofs.YthnnlgjlhnmhnaaGreat
open Go.Hp
variable {G:World} {U:UH} {M:MH}
end Go.Proofs.YthnnlgjlhnmhnaaGreat

/- Walks of the reference of layer 1: greatest common divisors, quotients. -/
namespace Go.Proofs.YthnnlgjlhnmhnaaGreat
open Go.Hp
variable {G:World} {U:UH} {M:MH}
theorem Vo {x y:IV} {z u:Int} (hx:x.rep U M z) (hn:x.n≤274877906944) (hy:y.rep U M u) (hn':y.n≤274877906944) (hu:u≠0) :
  Ct Tryz.prog 80 [x.v,y.v] G U M fun v U' D=>∃ r:IV,v=r.v∧r.own D (z / u)∧U=U':=by
 have hUc:=ULe.refl U
 refine Qh Tryz.func80 rfl rfl rfl rfl ?_
 repeat (first|refine Qc ?_|refine Qa fun _=>?_|refine w_al fun _=>?_)
 refine Qd rfl rfl rfl rfl rfl rfl (fun _=>yV (hx.up hUc sb) hn (hy.up hUc sb) hn' hu) ?_
 rintro v U' D hU ⟨xq,xr,Dq,Dr,rfl,rfl,q,r,rfl⟩
 rw [List.append_assoc]
 refine Qj ?_ ((List.Perm.append_left Dr (perm3 (D:=Dq))).trans (perm3 (D:=Dr)))
 repeat (first|refine Qc ?_|refine Qa fun _=>?_|refine w_al fun _=>?_)
 exact Qe Dq sym rfl (.cons (.cell 2 rfl rfl rfl) .nil) hUc (.cons _ (.cons _ (.cons _ (.cons _ (.cons _ (JA (List.Sublist.refl _))))))) (.inl rfl) ⟨xq,rfl,q,rfl⟩
theorem Qif {x y:IV} {z w:Int} (hx:x.rep U M z) (hn:x.n≤137438953472) (hy:y.rep U M w) (hn':y.n≤137438953472) :
  Ct Tryz.prog 104 [x.v,y.v] G U M fun v U' D=>∃ r:IV,v=r.v∧r.own D (Int.gcd z w:Int)∧U=U':=by
 have hUc:=ULe.refl U
 have sz:=hx.sz (Nat.le_refl _)
 have sw:=hy.sz (Nat.le_refl _)
 refine Qh Tryz.func104 rfl rfl rfl rfl ?_
 repeat (first|refine Qc ?_|refine Qa fun _=>?_|refine w_al fun _=>?_)
 rename_i b2 b3 b4
 refine Qt [0,2,1,3,4,5,6,7] sym (by kernel_rfl) ?_
 repeat (first|refine Qc ?_|refine Qa fun _=>?_|refine w_al fun _=>?_)
 refine Qd rfl rfl rfl rfl rfl rfl (fun _=>QaP (hx.up hUc sb) (Nat.le_trans hn (by decide))) ?_
 rintro v U' Dh1 hU ⟨xh1,rfl,h1,rfl⟩
 refine Qj ?_ (perm3 (D:=Dh1))
 repeat (first|refine Qc ?_|refine Qa fun _=>?_|refine w_al fun _=>?_)
 refine Qd rfl rfl rfl rfl rfl rfl (fun _=>QaP (hy.up hUc sb) (Nat.le_trans hn' (by decide))) ?_
 rintro v U' Dh2 hU ⟨xh2,rfl,h2,rfl⟩
 refine Qj ?_ (perm3 (D:=Dh2))
 repeat (first|refine Ji ?_|refine Qa fun _=>?_|refine w_al fun _=>?_)
 rename_i b5 b6
 refine Qo (fun E U' M'=>E=[(6,.pointer (some ⟨b6,0,none⟩)),(5,.pointer (some ⟨b5,0,none⟩)),(4,.pointer (some ⟨b4,0,none⟩)),(3,.pointer (some ⟨b3,0,none⟩)),(2,.pointer (some ⟨b2,0,none⟩))]∧U=U'∧M'=(b6,.var xh2.v,46)::(b5,.var xh1.v,46)::(b4,.var (.agg #[.bool false,.slice none 0 0]),46)::(b3,.var y.v,46)::(b2,.var x.v,46)::(Dh2++(Dh1++M))) ?_ ?_
 ·try refine Qb ?_
  refine Qw rfl rfl (fun h3=>?_) (fun h3=>?_)
  ·try refine Qb ?_
   refine Qi rfl (fun h4=>?_) (fun h4=>?_)
   ·obtain ⟨l1,hd1,-,hv1,-⟩:=h1.at (M:=(b6,.var xh2.v,46)::(b5,.var xh1.v,46)::(b4,.var (.agg #[.bool false,.slice none 0 0]),46)::(b3,.var y.v,46)::(b2,.var x.v,46)::(Dh2++(Dh1++M))) (U:=U) sb
    obtain ⟨l2,hd2,-,hv2,-⟩:=h2.at (M:=(b6,.var xh2.v,46)::(b5,.var xh1.v,46)::(b4,.var (.agg #[.bool false,.slice none 0 0]),46)::(b3,.var y.v,46)::(b2,.var x.v,46)::(Dh2++(Dh1++M))) (U:=U) sb
    have w1:=yv hd1 (by omega)
    have w2:=yv hd2 (by omega)
    rw [hv1,Int.natAbs_natCast] at w1
    rw [hv2,Int.natAbs_natCast] at w2
    try refine Qb ?_
    refine Qt [0,1,3,4,2,5,6,7] sym (by kernel_rfl) ?_
    repeat (first|refine Qc ?_|refine Qa fun _=>?_|refine w_al fun _=>?_)
    refine Qd rfl rfl rfl rfl rfl rfl (fun _=>Vy (hd1.app _) (by omega)) ?_
    rintro v U' D hU ⟨rfl,rfl,rfl⟩
    repeat (first|refine Qc ?_|refine Qa fun _=>?_|refine w_al fun _=>?_)
    refine Qd rfl rfl rfl rfl rfl rfl (fun _=>Vy (hd2.app _) (by omega)) ?_
    rintro v U' D hU ⟨rfl,rfl,rfl⟩
    repeat (first|refine Qc ?_|refine Qa fun _=>?_|refine w_al fun _=>?_)
    rw [hv1,hv2,Int.natAbs_natCast,Int.natAbs_natCast]
    try refine Je ?_
    refine Ql (fun m E U' M'=>∃ p q:Nat,Nat.gcd p q=Int.gcd z w∧p < 18446744073709551616∧q < 18446744073709551616∧E=(7,.int .u64 (p:Int))::(8,.int .u64 (q:Int))::[(6,.pointer (some ⟨b6,0,none⟩)),(5,.pointer (some ⟨b5,0,none⟩)),(4,.pointer (some ⟨b4,0,none⟩)),(3,.pointer (some ⟨b3,0,none⟩)),(2,.pointer (some ⟨b2,0,none⟩))]∧U=U'∧M'=(b6,.var xh2.v,46)::(b5,.var xh1.v,46)::(b4,.var (.agg #[.bool false,.slice none 0 0]),46)::(b3,.var y.v,46)::(b2,.var x.v,46)::(Dh2++(Dh1++M))∧q=m) (n0:=w.natAbs)
     (E0:=(7,.int .u64 (z.natAbs:Int))::(8,.int .u64 (w.natAbs:Int))::[(6,.pointer (some ⟨b6,0,none⟩)),(5,.pointer (some ⟨b5,0,none⟩)),(4,.pointer (some ⟨b4,0,none⟩)),(3,.pointer (some ⟨b3,0,none⟩)),(2,.pointer (some ⟨b2,0,none⟩))]) ⟨rfl,rfl,rfl,rfl,rfl,rfl,rfl,trivial⟩ ⟨_,_,rfl,w1,w2,rfl,rfl,rfl,rfl⟩ ?_
    rintro m E U' M' ⟨p,q,e1,e2,e3,rfl,rfl,rfl,rfl⟩
    try refine Qb ?_
    refine Qi rfl (fun h5=>?_) (fun h5=>?_)
    ·have hlt:p % q < q:=Nat.mod_lt _ (by omega)
     try refine Qb ?_
     refine Qt [0,1,2,3,4,5] sym (by kernel_rfl) ?_
     try refine Qb ?_
     refine sl_y (Vd (m:=p) (n:=q) rfl rfl rfl rfl rfl (by simp only [kmax]; omega) (by omega) rfl) rfl rfl rfl rfl ?_
     try refine Qb ?_
     refine Qg (E':=(7,.int .u64 (q:Int))::(8,.int .u64 ((p % q:Nat):Int))::[(6,.pointer (some ⟨b6,0,none⟩)),(5,.pointer (some ⟨b5,0,none⟩)),(4,.pointer (some ⟨b4,0,none⟩)),(3,.pointer (some ⟨b3,0,none⟩)),(2,.pointer (some ⟨b2,0,none⟩))]) (m:=p % q) ⟨rfl,rfl,rfl,rfl,rfl,rfl,rfl,trivial⟩ hlt ⟨q,p % q,?_,e3,by omega,rfl,rfl,rfl,rfl⟩
     rw [← e1,Nat.gcd_comm q,← Nat.gcd_rec,Nat.gcd_comm]
    ·have hq:q=0:=by omega
     subst hq
     rw [Nat.gcd_zero_right] at e1
     subst e1
     repeat (first|refine Qc ?_|refine Qa fun _=>?_|refine w_al fun _=>?_)
     refine Qd rfl rfl rfl rfl rfl rfl (fun _=>jX e2) ?_
     rintro v U' D hU ⟨q,k,cc,lg,rfl,ho,cg,hvg,rfl⟩
     refine Qj ?_ (perm5 (D:=D))
     have hk:k≤1099511627776:=by
      have e4:k≤2:=IV.own.len_le (x:=⟨false,q,k,cc⟩) (z:=(val lg:Int)) (D:=D) ⟨lg,ho,cg,by rw [Int.natAbs_natCast],(decide_eq_false (by omega)).symm⟩ (by rw [Int.natAbs_natCast]; omega)
      omega
     repeat (first|refine Qc ?_|refine Qa fun _=>?_|refine w_al fun _=>?_)
     refine Qd rfl rfl rfl rfl rfl rfl (fun _=>Ja (neg:=false) ((ho.dig (U:=U) (M:=[])).up hUc (by rw [List.append_nil]; exact sb)) hk) ?_
     rintro v U' D2 hU ⟨xr,rfl,hr,rfl⟩
     refine Qj ?_ (perm5 (D:=D2))
     repeat (first|refine Qc ?_|refine Qa fun _=>?_|refine w_al fun _=>?_)
     rw [hvg] at hr
     exact Qe D2 sym rfl (.cons (.cell 2 rfl rfl rfl) .nil) hUc (.cons _ (.cons _ (.cons _ (.cons _ (.cons _ (List.Sublist.append (List.Sublist.refl D2) (JA (JA (JA (List.Sublist.refl M)))))))))) (.inl rfl) ⟨xr,rfl,hr,rfl⟩
   ·try refine Qb ?_
    exact Qn (E':=[(6,.pointer (some ⟨b6,0,none⟩)),(5,.pointer (some ⟨b5,0,none⟩)),(4,.pointer (some ⟨b4,0,none⟩)),(3,.pointer (some ⟨b3,0,none⟩)),(2,.pointer (some ⟨b2,0,none⟩))]) ⟨rfl,rfl,rfl,rfl,rfl,trivial⟩ ⟨rfl,rfl,rfl⟩
  ·try refine Qb ?_
   exact Qn (E':=[(6,.pointer (some ⟨b6,0,none⟩)),(5,.pointer (some ⟨b5,0,none⟩)),(4,.pointer (some ⟨b4,0,none⟩)),(3,.pointer (some ⟨b3,0,none⟩)),(2,.pointer (some ⟨b2,0,none⟩))]) ⟨rfl,rfl,rfl,rfl,rfl,trivial⟩ ⟨rfl,rfl,rfl⟩
 ·rintro E U' M' ⟨rfl,rfl,rfl⟩
  repeat (first|refine Qc ?_|refine Qa fun _=>?_|refine w_al fun _=>?_)
  refine Ql (fun m E U' M'=>∃ (xa xb:IV) (p q:Nat) (Da Db T:MH),xa.own Da (p:Int)∧xb.own Db (q:Int)∧Nat.gcd p q=Int.gcd z w∧Sz (p:Int) (x.n+y.n)∧Sz (q:Int) (x.n+y.n)∧E=[(6,.pointer (some ⟨b6,0,none⟩)),(5,.pointer (some ⟨b5,0,none⟩)),(4,.pointer (some ⟨b4,0,none⟩)),(3,.pointer (some ⟨b3,0,none⟩)),(2,.pointer (some ⟨b2,0,none⟩))]∧U=U'∧M'=(b6,.var xb.v,46)::(b5,.var xa.v,46)::(b4,.var (.agg #[.bool false,.slice none 0 0]),46)::(b3,.var y.v,46)::(b2,.var x.v,46)::T∧(Da++M).Sublist T∧(Db++M).Sublist T∧q=m) (n0:=w.natAbs)
   (E0:=[(6,.pointer (some ⟨b6,0,none⟩)),(5,.pointer (some ⟨b5,0,none⟩)),(4,.pointer (some ⟨b4,0,none⟩)),(3,.pointer (some ⟨b3,0,none⟩)),(2,.pointer (some ⟨b2,0,none⟩))]) ⟨rfl,rfl,rfl,rfl,rfl,trivial⟩ ⟨xh1,xh2,z.natAbs,w.natAbs,Dh1,Dh2,Dh2++(Dh1++M),h1,h2,rfl,sz.abs.mono (by omega),sw.abs.mono (by omega),rfl,rfl,rfl,sb,sb,rfl⟩ ?_
  rintro m E U' M' ⟨xa,xb,p,q,Da,Db,T,ha,hb,hg,sa,sb',rfl,rfl,rfl,hTa,hTb,rfl⟩
  have hM:M.Sublist T:=(List.sublist_append_right Da M).trans hTa
  have hTa1:Da.Sublist T:=(List.sublist_append_left Da M).trans hTa
  have hTb1:Db.Sublist T:=(List.sublist_append_left Db M).trans hTb
  try refine Qb ?_
  refine Qi rfl (fun h5=>?_) (fun h5=>?_)
  ·have hq:q≠0:=fun e=>by
    have:=hb.len0.2 (by omega)
    omega
   have hlt:p % q < q:=Nat.mod_lt _ (by omega)
   repeat (first|refine Qc ?_|refine Qa fun _=>?_|refine w_al fun _=>?_)
   refine Qd rfl rfl rfl rfl rfl rfl (fun _=>yV (ha.at (hTa1.trans sb)).rep (ha.le sa (by omega)) (hb.at (hTb1.trans sb)).rep (hb.le sb' (by omega)) (by omega)) ?_
   rintro v U' D hU ⟨xs,xt,Ds,Dt,rfl,rfl,s,t,rfl⟩
   rw [List.append_assoc]
   refine Qj ?_ ((List.Perm.append_left Dt (perm5 (D:=Ds))).trans (perm5 (D:=Dt)))
   repeat (first|refine Qc ?_|refine Qa fun _=>?_|refine w_al fun _=>?_)
   rw [← Int.natCast_emod] at t
   have st:=sb'.mod (by omega) (p:Int)
   rw [← Int.natCast_emod] at st
   refine Jw (perm5 (D:=[_,_])) ?_
   refine Qg (E':=[(6,.pointer (some ⟨b6,0,none⟩)),(5,.pointer (some ⟨b5,0,none⟩)),(4,.pointer (some ⟨b4,0,none⟩)),(3,.pointer (some ⟨b3,0,none⟩)),(2,.pointer (some ⟨b2,0,none⟩))]) (m:=p % q) ⟨rfl,rfl,rfl,rfl,rfl,trivial⟩ hlt ⟨xb,xt,q,p % q,Db,Dt,_,hb,t,?_,sb',st,rfl,rfl,rfl,hTb.trans sb,(List.Sublist.append (List.Sublist.refl Dt) (JA hM)).trans sb,rfl⟩
   rw [← hg,Nat.gcd_comm q,← Nat.gcd_rec,Nat.gcd_comm]
  ·have hq:q=0:=by
    have:=hb.len0.1 (by omega)
    omega
   subst hq
   rw [Nat.gcd_zero_right] at hg
   subst hg
   repeat (first|refine Qc ?_|refine Qa fun _=>?_|refine w_al fun _=>?_)
   exact Qe Da sym rfl (.cons (.cell 2 rfl rfl rfl) .nil) hUc (.cons _ (.cons _ (.cons _ (.cons _ (.cons _ hTa))))) (.inl rfl) ⟨xa,rfl,ha,rfl⟩
end Go.Proofs.YthnnlgjlhnmhnaaGreat
