/- Texts of this seat's own, merged: each begins with its own remark. -/
import Derived.Test.YtahcddpdgpjbnaaM23
import Derived.Test.YtahcddpdgpjbnaaM36
import Derived.Test.YtahcddpdgpjbnaaB92
import Derived.Test.YtahcddpdgpjbnaaM34
/- Walks of matrix: row times matrix, products. -/
namespace Go.Proofs.Ytahcddpdgpjbnaa
open Go.Hp
variable {G:World} {U U':UH} {M M':MH}
theorem Qbs {r c b:Nat} {vx vg:Value} {f:Nat→Rat} {A:Nat→Nat→Rat} (hx:Ls (Wq b) 4 r U M vx f) (hg:Lg r c U M vg A) (sA:∀ i j,i < r→j < c→Szq (A i j) b) (hb1:1≤b) (hB:1+r*(2*b+2)+b≤10000000000) (hr:r≤1000000) (hc:c≤1000000) :
  Ct Try.prog 27 [vx,vg,.int .i64 (c:Int)] G U M fun v U' D=>∃ p c' vs,v = .slice p c c'∧c≤c'∧RowW TR 4 D p c vs∧El Vq U' vs (fun j=>La.sm r fun i=>f i*A i j)∧ULe U U':=by
 have sf:∀ i,i < r→Szq (f i) b:=fun i hi=>hx.sz hb1 hi
 obtain ⟨px,cx,xs,rfl,-,rx,ex⟩:=hx
 obtain ⟨pg,cg,gs,rfl,-,rg,eg⟩:=hg
 refine Qf Try.func27 rfl rfl rfl rfl ?_
 repeat (first|refine Qc ?_|refine Qb fun _=>?_|refine w_al fun _=>?_)
 refine Qd rfl rfl rfl rfl rfl rfl (fun _=>jN (n:=c) (by omega)) ?_
 rintro v1 U1 D1 hU1 ⟨⟨po,co,os,rfl,hro,eo⟩,-⟩
 have hco:=hro.len.2.1
 try refine Qa ?_
 refine Qm (fun z E U' M'=>∃ (i:Nat) (vs:List Value) (D:MH),i≤r∧RowW TR 4 D po c vs∧El Vq U' vs (fun j=>La.sm i fun k=>f k*A k j)∧E=[(13,.int .i64 (i:Int)),(12,.int .i64 (r:Int)),(7,.slice po c co),(0,.slice px r cx),(1,.slice pg r cg)]∧ULe U1 U'∧M'=D++M∧z=r - i) (n0:=r)
  (E0:=[(13,.int .i64 ((0:Nat):Int)),(12,.int .i64 (r:Int)),(7,.slice po c co),(0,.slice px r cx),(1,.slice pg r cg)]) ⟨rfl,rfl,rfl,rfl,rfl,trivial⟩ ⟨0,os,D1,by omega,hro.w,eo,rfl,uc,rfl,rfl⟩ ?_
 clear hro eo
 rintro z E U2 M' ⟨i,vs,D,hi,hrow,hel,rfl,hU2,rfl,rfl⟩
 try refine Qa ?_
 refine Qk rfl (fun h=>?_) (fun h=>?_)
 ·have hir:i < r:=by omega
  obtain ⟨v1,hv1⟩:=rx.at hir
  obtain ⟨x1,rfl,hx1,hl1⟩:=ex _ _ hv1
  obtain ⟨v2,hv2⟩:=rg.at hir
  obtain ⟨q2,c2,us,rfl,hc2,ru,eu⟩:=eg _ _ hv2
  have hmul:i*(2*b+2)+(2*b+2)≤r*(2*b+2):=by
   have:=Nat.mul_le_mul_right (2*b+2) (show i+1≤r by omega)
   rwa [Nat.add_mul,Nat.one_mul] at this
  have sS:∀ j,j < c→Szq (La.sm i fun k=>f k*A k j) (1+i*(2*b+2)):=fun j hj=>QcF fun k hk=>((sf k (by omega)).mul (sA k j (by omega) hj)).mono (by omega)
  have rx2:=rx.up (U':=U2) (M':=D++M) uc sb
  have rg2:=rg.up (U':=U2) (M':=D++M) uc sb
  try refine Qa ?_
  refine sl_y (Qj sym rfl rfl rfl rfl rfl rfl (rx2.lt hv1) (rx2.get _ _ hv1).1) rfl rfl rfl rfl ?_; refine sl_y (Qu sym rfl rfl rfl rfl rfl rx2 hv1) rfl rfl rfl rfl ?_
  repeat (first|refine Qc ?_|refine Qb fun _=>?_|refine w_al fun _=>?_)
  refine Qd rfl rfl rfl rfl rfl rfl (fun _=>Yj (hx1.up uc sb) (by omega)) ?_
  rintro v U' D hU ⟨rfl,rfl,rfl⟩
  repeat (first|refine Qc ?_|refine Qb fun _=>?_|refine w_al fun _=>?_)
  by_cases hf:f i≠0
  ·rw [decide_eq_true hf]
   try refine Qa ?_
   refine QH [9] [0,1,2,3,4,5,6,7,8,9] sym (by kernel_rfl) ?_
   try refine Qa ?_
   refine sl_y (Qj sym rfl rfl rfl rfl rfl rfl (rg2.lt hv2) (rg2.get _ _ hv2).1) rfl rfl rfl rfl ?_; refine sl_y (Qp sym rfl rfl rfl rfl rg2 hv2 rfl) rfl rfl rfl rfl ?_
   try refine Qa ?_
   refine sl_y (Qj sym rfl rfl rfl rfl rfl rfl (rx2.lt hv1) (rx2.get _ _ hv1).1) rfl rfl rfl rfl ?_; refine sl_y (Qu sym rfl rfl rfl rfl rfl rx2 hv1) rfl rfl rfl rfl ?_
   try refine Qa ?_
   generalize hB2:r*(2*b+2)=B2 at hB hmul
   refine Jp rfl rfl rfl rfl rfl rfl ((qK (b:=1+B2+b) (fr:=0) (X:=M) hrow hel (vb := .slice q2 c c2) (g:=A i) ⟨q2,c2,_,rfl,hc2,ru.up uc (List.Sublist.refl _),eu.up QA uc⟩ (hx1.up uc (List.nil_sublist _)) ⟨Nat.le_trans hl1.1 (by omega),Nat.le_trans hl1.2 (by omega)⟩ (Nat.zero_le c) (fun j hj=>(sS j hj).mono (by omega)) (fun j hj=>(sA i j hir hj).mono (by omega)) ((sf i hir).mono (by omega)) (by omega) (by omega))) ?_
   rintro v4 U4 M4 hU4 ⟨-,D5,vs5,rfl,hr5,e5⟩
   try refine Qa ?_
   exact Qi (E':=[(13,.int .i64 ((i:Int)+1)),(12,.int .i64 (r:Int)),(7,.slice po c co),(0,.slice px r cx),(1,.slice pg r cg)]) (m:=r - (i+1)) ⟨rfl,rfl,rfl,rfl,rfl,trivial⟩ (by omega)
    ⟨i+1,vs5,D5,by omega,hr5,e5.congr hr5.len fun j _=>by rw [if_pos (Nat.zero_le j)]; rfl,rfl,uc,rfl,rfl⟩
  ·rw [decide_eq_false hf]
   have hf0:f i=0:=Classical.not_not.1 hf
   try refine Qa ?_
   exact Qi (E':=[(13,.int .i64 ((i:Int)+1)),(12,.int .i64 (r:Int)),(7,.slice po c co),(0,.slice px r cx),(1,.slice pg r cg)]) (m:=r - (i+1)) ⟨rfl,rfl,rfl,rfl,rfl,trivial⟩ (by omega)
    ⟨i+1,vs,D,by omega,hrow,hel.congr hrow.len fun j _=>by
     show _=(La.sm i fun k=>f k*A k j)+f i*A i j
     rw [hf0,Rat.zero_mul,Rat.add_zero],rfl,uc,rfl,rfl⟩
 ·have e:i=r:=by omega
  subst e
  try refine Qa ?_
  exact Qe D sym rfl (.cons (.tmp rfl) .nil) uc sb (.inl rfl) ⟨po,co,vs,rfl,hco,hrow,hel,uc⟩
theorem QbJ {r c b:Nat} {vx vg:Value} {f:Nat→Rat} {A:Nat→Nat→Rat} (hx:Ls (Wq b) 4 r U M vx f) (hg:Lg r c U M vg A) (sA:∀ i j,i < r→j < c→Szq (A i j) b) (hb1:1≤b) (hB:1+r*(2*b+2)+b≤10000000000) (hr:r≤1000000) (hc:c≤1000000) :
  Ct Try.prog 27 [vx,vg,.int .i64 (c:Int)] G U M fun v U' D=>Ls Vq 4 c U' [] v (fun j=>La.sm r fun i=>f i*A i j)∧D=[] :=
 (Qbs hx hg sA hb1 hB hr hc).settle.mono fun _ _ _ _ ⟨h1,_,_,⟨p,c',vs,h2,h3,h4,h5,_⟩,_,h6,h7⟩=>⟨⟨p,c',vs,h2,h3,h4.sett h7,h5.up QA h6⟩,h1⟩
end Go.Proofs.Ytahcddpdgpjbnaa

/- Walks of the reference of layer 9: kernels. -/
namespace Go.Proofs.Ytahcddpdgpjbnaa
open Go.Hp
variable {G:World} {U U':UH} {M M':MH}
theorem Gs.tail {R:MH→Option Addr→Nat→Nat→List Value→Prop} {c:Nat} {svs:List Value} {D:MH} {F:List MH} {A:Nat→Nat→Rat} (h:Gs R c U svs (D::F) A):Gs R c U svs.tail F (fun k=>A (k+1)):=by
 refine ⟨by rw [List.length_tail,h.1]; rfl,fun i v E h1 h2=>?_⟩
 rw [List.getElem?_tail] at h1
 exact h.2 (i+1) v E h1 h2
end Go.Proofs.Ytahcddpdgpjbnaa

/- Walks of the reference of layer 9: Solve. -/
namespace Go.Proofs.Ytahcddpdgpjbnaa
open Go.Hp
variable {G:World} {U U':UH} {M M':MH}
end Go.Proofs.Ytahcddpdgpjbnaa

/- Walks of the reference of layer 9: Inverse. -/
namespace Go.Proofs.Ytahcddpdgpjbnaa
open Go.Hp
variable {G:World} {U U':UH} {M M':MH}
end Go.Proofs.Ytahcddpdgpjbnaa
