/- Walk of arith.Primes: the sieve. -/
import Derived.Test.YtnjpkncacddplaaGreatM41
import Derived.Test.YtnjpkncacddplaaGreatM21
import Derived.Test.YtnjpkncacddplaaGreatM40
namespace Go.Proofs.YtnjpkncacddplaaGreat
open Go.Hp
open Go.Fq (Prm Sv stk)
variable {G:World} {U U':UH} {M:MH}
structure PrL (p k:Nat) (F:Nat→Nat):Prop where
 prm:∀ i,i < k→Prm (F i)∧F i < p
 mono:∀ i j,i < j→j < k→F i < F j
 all:∀ q,Prm q→q < p→∃ i,i < k∧F i=q
theorem PrL.zero {F:Nat→Nat}:PrL 2 0 F:=⟨fun i h=>absurd h (Nat.not_lt_zero i),fun i j _ h=>absurd h (Nat.not_lt_zero j),fun q h h2=>absurd h.two (by omega)⟩
theorem PrL.skip {p k:Nat} {F:Nat→Nat} (h:PrL p k F) (hp:¬ Prm p):PrL (p+1) k F:=⟨fun i hi=>⟨(h.prm i hi).1,by have:=(h.prm i hi).2; omega⟩,h.mono,fun q hq h2=>by
 rcases Nat.lt_or_eq_of_le (Nat.le_of_lt_succ h2) with h3 | h3
 ·exact h.all q hq h3
 ·exact absurd (h3 ▸ hq) hp⟩
theorem PrL.add {p k:Nat} {F:Nat→Nat} (h:PrL p k F) (hp:Prm p):PrL (p+1) (k+1) (fun i=>if i=k then p else F i):=by
 refine ⟨fun i hi=>?_,fun i j hij hj=>?_,fun q hq h2=>?_⟩
 ·by_cases e:i=k
  ·simp only [if_pos e]; exact ⟨hp,by omega⟩
  ·simp only [if_neg e]; exact ⟨(h.prm i (by omega)).1,by have:=(h.prm i (by omega)).2; omega⟩
 ·simp only [if_neg (show i≠k by omega)]
  by_cases e:j=k
  ·simp only [if_pos e]; exact (h.prm i (by omega)).2
  ·simp only [if_neg e]; exact h.mono i j hij (by omega)
 ·rcases Nat.lt_or_eq_of_le (Nat.le_of_lt_succ h2) with h3 | h3
  ·obtain ⟨i,hi,e⟩:=h.all q hq h3
   exact ⟨i,by omega,by simp only [if_neg (show i≠k by omega)]; exact e⟩
  ·exact ⟨k,by omega,by simp only [if_true]; exact h3.symm⟩
def Vbo (_:UH) (v:Value) (b:Bool):Prop:=v = .bool b
theorem pfs2 {α:Type} {a b:List α} (h:∀ f:α→Nat,(a.map f).sum=(b.map f).sum:=by intro f; simp only [TInt,List.map_append,List.map_cons,List.sum_append,List.sum_cons,List.map_nil,List.sum_nil,List.nil_append,List.append_nil]; omega):a.Perm b:=pq h
theorem Qeq {n:Nat} (hn:n≤65521) :
  Ct Tryz.prog 33 [.int .i64 (n:Int)] G U M fun v U' D=>∃ (k:Nat) (F:Nat→Nat) (vp:Value),v = .tuple #[vp,.int .i64 0]∧Lo Vi TInt 1 k U' D vp F∧PrL (max 2 (n+1)) k F∧ULe U U':=by
 refine Qg Tryz.func33 rfl rfl rfl rfl ?_
 repeat (first|refine Qb ?_|refine Qa fun _=>?_|refine w_al fun _=>?_)
 refine Qh rfl (fun h=>absurd h (by omega)) (fun _=>?_)
 repeat (first|refine Qb ?_|refine Qa fun _=>?_|refine w_al fun _=>?_)
 rw [show (if (0:Int) > (n:Int)+1 then (0:Int) else (n:Int)+1)=((n+1:Nat):Int) by rw [if_neg (by omega)]; rfl]
 refine Jz (m:=n+1) (n:=n+1) sym rfl rfl rfl rfl rfl rfl rfl rfl rfl (Nat.le_refl _) (by omega) (by omega) rfl rfl rfl rfl (fun b2=>?_)
 have hrow:=Yj (e:=4) (s:=1) (b:=b2) (n:=n+1) (z := .bool false) rfl (by omega)
 have hel:∀ k,k≤n→(List.replicate (n+1) (Value.bool false))[k]?=some (.bool false):=fun k hk=>by rw [List.getElem?_replicate,if_pos (by omega)]
 try refine Qc ?_
 refine qe (M':=[(b2,.arr (List.replicate (n+1) (.bool false)),4)]++([]++M)) pfs2 ?_
 generalize List.replicate (n+1) (Value.bool false)=cs0 at hrow hel ⊢
 generalize [(b2,Blk.arr cs0,4)]=Dc0 at hrow ⊢
 try refine JB (M':=Dc0++(([])++M)) (ULe.refl _) sbk ?_
 refine Qo (fun z E U' M'=>∃ (p k:Nat) (F:Nat→Nat) (g:Nat→Bool) (Q:Option Addr) (C:Nat) (us cs:List Value) (D Dc:MH),(2≤p∧k≤p∧p≤max 2 (n+1))∧PrL p k F∧Sv n p g∧RowO TInt 1 D Q k C us∧El Vi U' us F∧RowO 4 1 Dc (some ⟨b2,0,none⟩) (n+1) (n+1) cs∧(∀ k,k≤n→cs[k]?=some (.bool (g k)))∧U=U'∧E=[(6,.int .i64 (p:Int)),(5,.slice Q k C),(4,.slice (some ⟨b2,0,none⟩) (n+1) (n+1)),(0,.int .i64 (n:Int)),(3,.int .i64 0)]∧ULe U U'∧M'=Dc++(D++M)∧z=n+1 - p) (n0:=n+1 - 2) (E0:=[(6,.int .i64 ((2:Nat):Int)),(5,.slice none 0 0),(4,.slice (some ⟨b2,0,none⟩) (n+1) (n+1)),(0,.int .i64 (n:Int)),(3,.int .i64 0)]) ⟨rfl,rfl,rfl,rfl,rfl,trivial⟩ ⟨2,0,fun _=>0,fun _=>false,none,0,[],cs0,[],Dc0,by omega,PrL.zero,Sv.start,RowO.nil,El.nil,hrow,hel,rfl,rfl,uc,rfl,rfl⟩ ?_
 clear hrow hel
 rintro z E U1 M' ⟨p,k,F,g,Q,C,us,cs,D,Dc,hb,hP,hS,hro,hel,hrc,hcs,rfl,rfl,hU1,rfl,rfl⟩
 try refine Qc ?_
 refine Qh rfl (fun h=>?_) (fun h=>?_)
 ·have hpn:p≤n:=by omega
  have hv:=hcs p hpn
  have rC:=hrc.at (U:=U) (M:=Dc++(D++M)) sb
  have hprm:=hS.prime hb.1 hpn
  cases hg:g p with
  | true =>
   rw [hg] at hv
   try refine Qc ?_
   refine sl_y (Qf sym rfl rfl rfl rfl rfl rfl (rC.lt hv) (rC.get _ _ hv).1) rfl rfl rfl rfl ?_; refine sl_y (Qk sym rfl rfl rfl rfl rC hv rfl) rfl rfl rfl rfl ?_
   try refine Qc ?_
   exact Qj (E':=[(6,.int .i64 ((p:Int)+1)),(5,.slice Q k C),(4,.slice (some ⟨b2,0,none⟩) (n+1) (n+1)),(0,.int .i64 (n:Int)),(3,.int .i64 0)]) (m:=n+1 - (p+1)) ⟨rfl,rfl,rfl,rfl,rfl,trivial⟩ (by omega) ⟨p+1,k,F,g,Q,C,us,cs,D,Dc,by omega,hP.skip (fun h5=>by have:=hprm.2 h5; rw [hg] at this; cases this),hS.skip (fun h5=>by have:=hprm.2 h5; rw [hg] at this; cases this),hro,hel,hrc,hcs,rfl,rfl,uc,rfl,rfl⟩
  | false =>
   rw [hg] at hv
   have hp:=hprm.1 hg
   try refine Qc ?_
   refine sl_y (Qf sym rfl rfl rfl rfl rfl rfl (rC.lt hv) (rC.get _ _ hv).1) rfl rfl rfl rfl ?_; refine sl_y (Qk sym rfl rfl rfl rfl rC hv rfl) rfl rfl rfl rfl ?_
   try refine Qc ?_
   have hpp:p*p≤65521*65521:=Nat.mul_le_mul (by omega) (by omega)
   have hpi:(p:Int)*(p:Int)=((p*p:Nat):Int):=(Int.natCast_mul p p).symm
   refine QcL hro (X:=Dc++M) pfs2 (fun b p2 c2 D2 hr2=>?_)
   refine Qn (M':=Dc++(D2++M)) ?_ pfs2
   try refine Qc ?_
   rw [hpi]
   have hclen:=hrc.len.1
   try refine JB (M':=Dc++(D2++M)) (ULe.refl _) sbk ?_
   refine Qo (fun z E U' M'=>∃ (c:Nat) (cs:List Value) (Dc:MH),p*p≤c∧p ∣ c∧RowO 4 1 Dc (some ⟨b2,0,none⟩) (n+1) (n+1) cs∧(∀ k,k≤n→cs[k]?=some (.bool (stk g p c k)))∧U=U'∧E=[(7,.int .i64 (c:Int)),(6,.int .i64 (p:Int)),(5,.slice p2 (k+1) c2),(4,.slice (some ⟨b2,0,none⟩) (n+1) (n+1)),(0,.int .i64 (n:Int)),(3,.int .i64 0)]∧ULe U U'∧M'=Dc++(D2++M)∧z=n+1 - c) (n0:=n+1 - (p*p)) (E0:=[(7,.int .i64 ((p*p:Nat):Int)),(6,.int .i64 (p:Int)),(5,.slice p2 (k+1) c2),(4,.slice (some ⟨b2,0,none⟩) (n+1) (n+1)),(0,.int .i64 (n:Int)),(3,.int .i64 0)]) ⟨rfl,rfl,rfl,rfl,rfl,rfl,trivial⟩ ⟨p*p,cs,Dc,Nat.le_refl _,Nat.dvd_mul_left p p,hrc,(by rw [Fq.stk_start]; exact hcs),rfl,rfl,uc,rfl,rfl⟩ ?_
   clear hrc hcs hclen
   rintro z E U2 M' ⟨c,cs,Dc,hc,hd,hrc,hcs,rfl,rfl,hU2,rfl,rfl⟩
   try refine Qc ?_
   refine Qh rfl (fun h2=>?_) (fun h2=>?_)
   ·have hcn:c≤n:=by omega
    have hclen:=hrc.len.1
    try refine Qc ?_
    refine JI (j:=c) (show c < n+1 by omega) rfl ?_
    refine Jj (v := .bool true) (X:=D2++M) hrc (List.Perm.refl _) (show c < n+1 by omega) (fun D3 hr3=>?_)
    try refine Qc ?_
    refine Qj (E':=[(7,.int .i64 ((c:Int)+p)),(6,.int .i64 (p:Int)),(5,.slice p2 (k+1) c2),(4,.slice (some ⟨b2,0,none⟩) (n+1) (n+1)),(0,.int .i64 (n:Int)),(3,.int .i64 0)]) (m:=n+1 - (c+p)) ⟨rfl,rfl,rfl,rfl,rfl,rfl,trivial⟩ (by omega) ⟨c+p,cs.set c (.bool true),D3,by omega,(Nat.dvd_add hd (Nat.dvd_refl p)),hr3,(fun t ht=>by
     rw [Fq.stk_next (by omega) hd hc]
     by_cases e:t=c
     ·rw [e,List.getElem?_set_self (by omega)]; simp
     ·rw [List.getElem?_set_ne (Ne.symm e),hcs t ht]; simp only [if_neg e]),rfl,rfl,uc,rfl,rfl⟩
   ·try refine Qc ?_
    exact Qj (E':=[(6,.int .i64 ((p:Int)+1)),(5,.slice p2 (k+1) c2),(4,.slice (some ⟨b2,0,none⟩) (n+1) (n+1)),(0,.int .i64 (n:Int)),(3,.int .i64 0)]) (m:=n+1 - (p+1)) ⟨rfl,rfl,rfl,rfl,rfl,trivial⟩ (by omega) ⟨p+1,k+1,(fun i=>if i=k then p else F i),stk g p c,p2,c2,us++[.int .i64 (p:Int)],cs,D2,Dc,by omega,hP.add hp,hS.strike hp (by omega),hr2,Qbl hro.len.1 (hel.congr hro.len.1 fun t ht=>(if_neg (show ¬ t=k by omega)).symm) (by show _=Value.int .i64 (((if k=k then p else F k:Nat)):Int); rw [if_pos rfl]),hrc,hcs,rfl,rfl,uc,rfl,rfl⟩
 ·obtain rfl:p=max 2 (n+1):=by omega
  try refine Qc ?_
  exact Qe D sym rfl (.cons (.tmp rfl) (.cons (.tmp rfl) .nil)) uc sb (.inl rfl) ⟨k,F,_,rfl,⟨Q,C,us,rfl,hro,hel⟩,hP,uc⟩
theorem Qen {n:Nat} (h2:2≤n) (hn:n≤65521) :
  Ct Tryz.prog 33 [.int .i64 (n:Int)] G U M fun v U' D=>∃ (k:Nat) (F:Nat→Nat) (vp:Value),v = .tuple #[vp,.int .i64 0]∧Ls Vi 1 k U' [] vp F∧PrL (n+1) k F∧D=[] :=
 (Qeq hn).settle.mono fun _ _ _ _ ⟨h1,_,_,⟨k,F,vp,e,h3,h4,_⟩,_,hU,hs⟩=>⟨k,F,vp,e,h3.sett QgK hU hs,by rwa [show max 2 (n+1)=n+1 by omega] at h4,h1⟩
end Go.Proofs.YtnjpkncacddplaaGreat
