/- For the law of layer 2 on memory: copies; rows of digits that are written over. -/
import Derived.Test.YtahcddpdgpjbnaaM17
import Derived.Test.YtahcddpdgpjbnaaM11
namespace Go.Proofs.Ytahcddpdgpjbnaa
open Go.Hp
variable {G:World} {U:UH} {M:MH}
theorem qG {x:IV} {l:List Nat} (hd:Dig U M x.p x.n x.c l) (hn:x.n≤1000000) :
  Ct Try.prog 56 [x.v] G U M fun v U' D=>∃ p c,v=(IV.mk x.neg p x.n c).v∧(∀ U' M',Dig U' (D++M') p x.n c l)∧U=U':=by
 obtain ⟨neg,p,n,c⟩:=x
 simp only at hd hn
 change Ct _ _ [Value.agg #[.bool neg,.slice p n c]] G U M _
 refine Qf Try.func56 rfl rfl rfl rfl ?_
 repeat (first|refine Qc ?_|refine Qb fun _=>?_|refine w_al fun _=>?_)
 refine Qq [0,1,3,4,2,5,6,7] sym (by kernel_rfl) ?_
 repeat (first|refine Qc ?_|refine Qb fun _=>?_|refine w_al fun _=>?_)
 refine Qs (vs:=[]) sym rfl rfl rfl rfl rfl rfl (by intro v hv; cases hv) rfl rfl rfl rfl rfl rfl (fun be=>?_)
 repeat (first|refine Qc ?_|refine Qb fun _=>?_|refine w_al fun _=>?_)
 refine QaC sym rfl rfl rfl rfl rfl (hd.up (ULe.refl _) sb) (by omega) rfl rfl rfl (fun p1 c1 D1 hx1=>?_)
 refine Qg ?_ (perm3 (D:=D1))
 repeat (first|refine Qc ?_|refine Qb fun _=>?_|refine w_al fun _=>?_)
 exact Qe D1 sym rfl (.cons (.cell 1 rfl rfl rfl) .nil) (ULe.refl _) sb (.inl rfl) ⟨p1,c1,rfl,hx1,rfl⟩
theorem yZ {x:QV} {l1 l2:List Nat} (hd1:Dig U M x.num.p x.num.n x.num.c l1) (hn1:x.num.n≤1000000) (hd2:Dig U M x.den.p x.den.n x.den.c l2) (hn2:x.den.n≤1000000) :
  Ct Try.prog 41 [x.v] G U M fun v U' D=>∃ p c p' c',v=(QV.mk (IV.mk x.num.neg p x.num.n c) (IV.mk x.den.neg p' x.den.n c')).v∧(∀ U' M',Dig U' (D++M') p x.num.n c l1∧Dig U' (D++M') p' x.den.n c' l2)∧U=U':=by
 refine Qf Try.func41 rfl rfl rfl rfl ?_
 repeat (first|refine Qc ?_|refine Qb fun _=>?_|refine w_al fun _=>?_)
 refine Qq [0,1,3,4,2,5,6,7] sym (by kernel_rfl) ?_
 repeat (first|refine Qc ?_|refine Qb fun _=>?_|refine w_al fun _=>?_)
 refine Qd rfl rfl rfl rfl rfl rfl (fun _=>qG (x:=x.num) (hd1.up (ULe.refl _) sb) hn1) ?_
 rintro v U1 D1 hU ⟨p,c,rfl,h1,rfl⟩
 refine Qg ?_ (perm2 (D:=D1))
 repeat (first|refine Qc ?_|refine Qb fun _=>?_|refine w_al fun _=>?_)
 refine Qd rfl rfl rfl rfl rfl rfl (fun _=>qG (x:=x.den) (hd2.up (ULe.refl _) sb) hn2) ?_
 rintro v U1 D2 hU ⟨p',c',rfl,h2,rfl⟩
 refine Qg ?_ (perm2 (D:=D2))
 repeat (first|refine Qc ?_|refine Qb fun _=>?_|refine w_al fun _=>?_)
 exact Qe (D2++D1) sym rfl (.cons (.cell 0 rfl rfl rfl) .nil) (ULe.refl _) sb (.inl rfl) ⟨p,c,p',c',rfl,fun U' M'=>⟨(h1 U' M').up (ULe.refl _) sb,(h2 U' M').up (ULe.refl _) sb⟩,rfl⟩
def vf (j:Nat):Nat:=if j % 2=0 then j / 2 else j / 2+100
def Fml (xs:List IV) (F:List MH) (m:Nat):Prop:=F.length=xs.length∧∀ (j:Nat) (D:MH) (x:IV),F[j]?=some D→xs[j]?=some x→∃ l,Own D x.p x.n x.c l∧(j < m→∀ d ∈ l,d=vf j)
theorem Fml.start {L:List (IV × MH)} (h:∀ p ∈ L,∃ z,p.1.own p.2 z):Fml (L.map (·.1)) (L.map (·.2)) 0:=by
 refine ⟨by simp,fun j D x hD hx=>?_⟩
 rw [List.getElem?_map] at hD hx
 obtain ⟨p,hp,rfl⟩:=Option.map_eq_some_iff.1 hD
 rw [hp] at hx
 cases hx
 obtain ⟨z,l,ho,-⟩:=h p (List.mem_of_getElem? hp)
 exact ⟨l,ho,fun h=>absurd h (by omega)⟩
theorem Fml.put {xs:List IV} {F:List MH} {m:Nat} {x:IV} (h:Fml xs F m) (hx:xs[m]?=some x) :
  ∃ D l,F[m]?=some D∧Own D x.p x.n x.c l∧∀ D' l',Own D' x.p x.n x.c l'→(∀ d ∈ l',d=vf m)→Fml xs (F.set m D') (m+1):=by
 have hi:m < F.length:=by rw [h.1]; exact (List.getElem?_eq_some_iff.1 hx).1
 have hD:=List.getElem?_eq_getElem hi
 generalize F[m]=D at hD
 obtain ⟨l,ho,h1⟩:=h.2 m D x hD hx
 refine ⟨D,l,hD,ho,fun D' l' hD' hl'=>⟨by rw [List.length_set]; exact h.1,fun j E y hE hy=>?_⟩⟩
 by_cases hj:j=m
 ·subst hj
  rw [List.getElem?_set_self hi] at hE
  cases hE
  rw [hx] at hy
  cases hy
  exact ⟨_,hD',fun _=>hl'⟩
 ·rw [List.getElem?_set_ne (by omega)] at hE
  obtain ⟨l',ho',h1'⟩:=h.2 j E y hE hy
  exact ⟨l',ho',fun h=>h1' (by omega)⟩
theorem Fml.get {xs:List IV} {F:List MH} {m i:Nat} {x:IV} {B T:MH} (h:Fml xs F m) (hi:i < m) (hx:xs[i]?=some x) :
  ∃ l,Dig U (B++(F.flatten++T)) x.p x.n x.c l∧∀ d ∈ l,d=vf i:=by
 have hiF:i < F.length:=by rw [h.1]; exact (List.getElem?_eq_some_iff.1 hx).1
 have hD:=List.getElem?_eq_getElem hiF
 generalize F[i]=D at hD
 obtain ⟨l,ho,h1⟩:=h.2 i D x hD hx
 have hdg:=ho.dig (U:=U) (M:=(F.take i).flatten++(F.drop (i+1)).flatten)
 refine ⟨l,⟨hdg.len,hdg.cap,hdg.capm,hdg.bd,fun k d hk=>⟨(hdg.cell k d hk).1,fun G w hw=>(hdg.cell k d hk).2 G w ((hw.anti (ULe.refl U) (jM (List.sublist_append_left ..))).perm (jR hD))⟩⟩,h1 hi⟩
end Go.Proofs.Ytahcddpdgpjbnaa
