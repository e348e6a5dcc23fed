/- Matrices in the caller's memory: Inverse (printed by gen302.py) -/
import Derived.Test.YtahcddpdgpjbnaaB303
import Derived.Test.YtahcddpdgpjbnaaM26
namespace Go.Proofs.Ytahcddpdgpjbnaa
open Go.Hp
variable {G:World} {U U':UH} {M M':MH}
theorem Qag {n b:Nat} {vm:Value} {A:Nat→Nat→Rat} (hm:Vx M b n n U vm A) (hb1:1≤b) (hg1:1+n*La.gro b n≤1000000000) (hgW:La.gro b n≤1000000000) (hn1:n≤1000) :
  Ct Try.prog 12 [vm] G U M fun v U' D=>∃ (r:Nat) (R:Nat→Nat→Rat) (p:Nat→Nat) (vX:Value) (e:Int),v = .tuple #[vX,.int .i64 e]∧EchOf n n r A R p∧(r < n→e=11∧vX = .agg #[.int .i64 0,.int .i64 0,.slice none 0 0]∧D=[]) ∧
   (r=n→e=0∧∃ X:Nat→Nat→Rat,Vmo n n U' D vX X∧(∀ i j,i < n→j < n→La.mm n X A i j=La.idm i j)∧∀ i j,i < n→j < n→Szq (X i j) (La.gro b n))∧ULe U U':=by
 have hb:b≤1000000000:=Nat.le_trans (La.gro_le (k:=b) (Nat.zero_le n)) hgW
 obtain ⟨hmn,hmn2⟩:=jP (m:=n) hn1 hn1 hb
 have sT:∀ i j,i < n→j < n→Szq (A i j) b:=fun i j hi hj=>hm.sz hb1 hi hj
 have hm2:=hm
 obtain ⟨_,rfl,pa,cm,ms,rfl,-⟩:=hm
 refine Qf Try.func12 rfl rfl rfl rfl ?_
 repeat (first|refine Qc ?_|refine Qb fun _=>?_|refine w_al fun _=>?_)
 rename_i b1 b2
 refine Qd rfl rfl rfl rfl rfl rfl (fun _=>Yf (r:=(n:Int)) (c:=(n:Int)) (n:=n*n) (p:=pa) (cc:=cm) (by omega)) ?_
 rintro v U' D hU ⟨rfl,rfl,rfl⟩
 repeat (first|refine Qc ?_|refine Qb fun _=>?_|refine w_al fun _=>?_)
 rw [decide_eq_true ⟨Yd (by omega) (by omega),rfl⟩]
 repeat (first|refine Qc ?_|refine Qb fun _=>?_|refine w_al fun _=>?_)
 refine Qq [0,2,3,1,4,5,6] sym (by kernel_rfl) ?_
 try refine Qa ?_
 refine Qd rfl rfl rfl rfl rfl rfl (fun _=>Yx (hm2.upx uc sb) (by omega) (by omega) (by omega) (by omega)) ?_
 rintro v1 U1 D1 hU1 ⟨hgl,-⟩
 try refine Qa ?_
 refine Qd rfl rfl rfl rfl rfl rfl (fun _=>jr (n:=n) (by omega)) ?_
 rintro v2 U2 D2 hU2 ⟨hgu,-⟩
 try refine Qa ?_
 have hga:Lg n n U2 (D2++(D1++((b2,.var (.agg #[.int .i64 0,.int .i64 0,.slice none 0 0]),TM)::(b1,.var (.agg #[.int .i64 (n:Int),.int .i64 (n:Int),.slice pa (n*n) cm]),TM)::M))) v1 A:=(hgl.w.lg (M:=D2++(D1++((b2,.var (.agg #[.int .i64 0,.int .i64 0,.slice none 0 0]),TM)::(b1,.var (.agg #[.int .i64 (n:Int),.int .i64 (n:Int),.slice pa (n*n) cm]),TM)::M))) sb).up uc (List.Sublist.refl _)
 have hgb:Lg n n U2 (D2++(D1++((b2,.var (.agg #[.int .i64 0,.int .i64 0,.slice none 0 0]),TM)::(b1,.var (.agg #[.int .i64 (n:Int),.int .i64 (n:Int),.slice pa (n*n) cm]),TM)::M))) v2 La.idm:=hgu.w.lg (List.sublist_append_left ..)
 refine Qd rfl rfl rfl rfl rfl rfl (fun _=>jp (hga.up uc sb) (hgb.up uc sb) (by omega) (by omega) (by omega)) ?_
 rintro v3 U3 D3 hU3 ⟨hgd,-⟩
 rw [vO] at hgd
 refine Qg (M':=(b2,.var (.agg #[.int .i64 0,.int .i64 0,.slice none 0 0]),TM)::(b1,.var (.agg #[.int .i64 (n:Int),.int .i64 (n:Int),.slice pa (n*n) cm]),TM)::(D3++(D2++(D1++M)))) ?_ pm
 refine yJ (M':=(b2,.var (.agg #[.int .i64 0,.int .i64 0,.slice none 0 0]),TM)::(b1,.var (.agg #[.int .i64 (n:Int),.int .i64 (n:Int),.slice pa (n*n) cm]),TM)::(D3++M)) sbk ?_
 repeat (first|refine Qc ?_|refine Qb fun _=>?_|refine w_al fun _=>?_)
 refine Jp rfl rfl rfl rfl rfl rfl ((Vp (X:=(b2,.var (.agg #[.int .i64 0,.int .i64 0,.slice none 0 0]),TM)::(b1,.var (.agg #[.int .i64 (n:Int),.int .i64 (n:Int),.slice pa (n*n) cm]),TM)::M) (cl:=n) hgd.w (Qcu hb1 sT) (Nat.le_add_right n n) hb1 hg1 hgW (by omega) (by omega)).perm pm) ?_
 rintro v4 U4 M4 hU4 ⟨-,r,R,p,vp,xd,d,D',Dp,rfl,rfl,hg4,⟨pp,cp,pvs,rfl,hrp,ep⟩,hd,hred,hsz,hsd⟩
 refine Qg (M':=(b2,.var (.agg #[.int .i64 0,.int .i64 0,.slice none 0 0]),TM)::(b1,.var (.agg #[.int .i64 (n:Int),.int .i64 (n:Int),.slice pa (n*n) cm]),TM)::(D'++(Dp++M))) ?_ pm
 have hrm:=hred.le
 obtain ⟨l1,l2⟩:=La.red_left hred
 obtain ⟨Do,F,pg,cg,svs,rfl,rfl,hro,hgs⟩:=hg4
 have hcg:=hro.len
 have hFl:F.length=n:=by rw [← hgs.1]; exact hcg.1
 repeat (first|refine Qc ?_|refine Qb fun _=>?_|refine w_al fun _=>?_)
 rename_i b6
 have hE:EchOf n n r A R p:=⟨l1,l2,hrm⟩
 refine Qk rfl (fun h=>?_) (fun h=>?_)
 ·have hlt:r < n:=by omega
  repeat (first|refine Qc ?_|refine Qb fun _=>?_|refine w_al fun _=>?_)
  exact Qe [] sym rfl (.cons (.cell 1 rfl rfl rfl) (.cons (.tmp rfl) .nil)) uc sb (.inl rfl) ⟨r,R,p,_,11,rfl,hE,(fun _=>⟨rfl,rfl,rfl⟩),(fun e=>absurd e (by omega)),uc⟩
 ·have heq:r=n:=by omega
  subst heq
  repeat (first|refine Qc ?_|refine Qb fun _=>?_|refine w_al fun _=>?_)
  refine JY (M:=(b6,.var xd.v,TR)::(b2,.var (.agg #[.int .i64 0,.int .i64 0,.slice none 0 0]),TM)::(b1,.var (.agg #[.int .i64 (r:Int),.int .i64 (r:Int),.slice pa (r*r) cm]),TM)::((Do++F.flatten)++(Dp++M))) (M':=(b6,.var xd.v,TR)::(b2,.var (.agg #[.int .i64 0,.int .i64 0,.slice none 0 0]),TM)::(b1,.var (.agg #[.int .i64 (r:Int),.int .i64 (r:Int),.slice pa (r*r) cm]),TM)::(Do++(F.flatten++(Dp++M)))) pm ?_
  refine Qm (fun z E U' M'=>∃ (i:Nat) (sv2:List Value) (Do:MH),i≤r∧RowO TRs 1 Do pg r cg sv2∧(∀ k v D,k < i→sv2[k]?=some v→F[k]?=some D→∃ q c' vs,v = .slice q r c'∧r≤c'∧RowW TR 4 D q r vs∧El Vq U4 vs (fun j=>R k (r+j)))∧(∀ k,i≤k→sv2[k]?=svs[k]?) ∧
    E=[(33,.int .i64 (i:Int)),(32,.int .i64 (r:Int)),(4,.slice pg r cg),(1,.pointer (some ⟨b1,0,none⟩)),(2,.pointer (some ⟨b2,0,none⟩))]∧U4=U'∧M'=(b6,.var xd.v,TR)::(b2,.var (.agg #[.int .i64 0,.int .i64 0,.slice none 0 0]),TM)::(b1,.var (.agg #[.int .i64 (r:Int),.int .i64 (r:Int),.slice pa (r*r) cm]),TM)::(Do++(F.flatten++(Dp++M)))∧z=r - i) (n0:=r)
   (E0:=[(33,.int .i64 ((0:Nat):Int)),(32,.int .i64 (r:Int)),(4,.slice pg r cg),(1,.pointer (some ⟨b1,0,none⟩)),(2,.pointer (some ⟨b2,0,none⟩))]) ⟨rfl,rfl,rfl,rfl,rfl,trivial⟩ ⟨0,svs,Do,by omega,hro,(fun k v D h=>absurd h (Nat.not_lt_zero k)),(fun _ _=>rfl),rfl,rfl,rfl,rfl⟩ ?_
  clear hro
  rintro z E U5 M' ⟨i,sv2,Do,hi,hro,hN,hO,rfl,rfl,rfl,rfl⟩
  have hsl2:=hro.len.1
  try refine Qa ?_
  refine Qk rfl (fun h5=>?_) (fun h5=>?_)
  ·have hir:i < r:=by omega
   have hv:=List.getElem?_eq_getElem (show i < svs.length by rw [hcg.1]; exact hir)
   have hFi:=List.getElem?_eq_getElem (show i < F.length by omega)
   generalize svs[i]=v5 at hv
   generalize F[i]=Di at hFi
   obtain ⟨q,c',vs,rfl,hcc,hR,hel⟩:=hgs.2 _ _ _ hv hFi
   have hv2:sv2[i]?=some (.slice q (r+r) c'):=by rw [hO i (Nat.le_refl i)]; exact hv
   have rA:=hro.at (U:=U4) (M:=(b6,.var xd.v,TR)::(b2,.var (.agg #[.int .i64 0,.int .i64 0,.slice none 0 0]),TM)::(b1,.var (.agg #[.int .i64 (r:Int),.int .i64 (r:Int),.slice pa (r*r) cm]),TM)::(Do++(F.flatten++(Dp++M)))) sb
   try refine Qa ?_
   refine QH [8,9,10] [0,1,2,3,4,5,6,7,8,9,10] sym (by kernel_rfl) ?_
   try refine Qa ?_
   refine sl_y (Qj sym rfl rfl rfl rfl rfl rfl (rA.lt hv2) (rA.get _ _ hv2).1) rfl rfl rfl rfl ?_; refine sl_y (Qp sym rfl rfl rfl rfl rA hv2 rfl) rfl rfl rfl rfl ?_
   try refine Qa ?_
   refine yQ (lo:=r) (n:=r+r) (by omega) hcc ?_
   have hpart:=hR.part (lo:=r) (hi:=r+r) (by omega) (Nat.le_refl _) hcc
   have e1:r+r - r=r:=by omega
   rw [e1] at hpart ⊢
   generalize (if c'=r then q else q.map (·.add (r*4)))=q2 at hpart ⊢
   refine QF (j:=i) hir (hro.some (by omega)) ?_
   refine QZ (X:=(b6,.var xd.v,TR)::(b2,.var (.agg #[.int .i64 0,.int .i64 0,.slice none 0 0]),TM)::(b1,.var (.agg #[.int .i64 (r:Int),.int .i64 (r:Int),.slice pa (r*r) cm]),TM)::(F.flatten++(Dp++M))) hro pm hir (fun D2 hr2=>?_)
   refine Qg (M':=(b6,.var xd.v,TR)::(b2,.var (.agg #[.int .i64 0,.int .i64 0,.slice none 0 0]),TM)::(b1,.var (.agg #[.int .i64 (r:Int),.int .i64 (r:Int),.slice pa (r*r) cm]),TM)::(D2++(F.flatten++(Dp++M)))) ?_ pm
   try refine Qa ?_
   refine Qi (E':=[(33,.int .i64 ((i:Int)+1)),(32,.int .i64 (r:Int)),(4,.slice pg r cg),(1,.pointer (some ⟨b1,0,none⟩)),(2,.pointer (some ⟨b2,0,none⟩))]) (m:=r - (i+1)) ⟨rfl,rfl,rfl,rfl,rfl,trivial⟩ (by omega)
    ⟨i+1,_,D2,by omega,hr2,(fun k v D hk hv hD=>?_),(fun k hk=>by rw [List.getElem?_set_ne (by omega)]; exact hO k (by omega)),rfl,rfl,rfl,rfl⟩
   by_cases ek:k=i
   ·subst ek
    rw [List.getElem?_set_self (by omega)] at hv
    cases hv
    rw [hFi] at hD
    cases hD
    refine ⟨q2,c' - r,_,rfl,by omega,hpart,fun t x ht=>?_⟩
    rw [List.getElem?_take] at ht
    split at ht
    ·rw [List.getElem?_drop] at ht
     exact hel _ _ ht
    ·cases ht
   ·rw [List.getElem?_set_ne (Ne.symm ek)] at hv
    exact hN k v D (by omega) hv hD
  ·have e:i=r:=by omega
   subst e
   have hgs2:Gs rW i U4 sv2 F (fun k j=>R k (i+j)):=⟨by rw [hsl2,hFl],fun k v D hv hD=>hN k v D (by rw [← hsl2]; exact (List.getElem?_eq_some_iff.1 hv).1) hv hD⟩
   try refine Qa ?_
   refine Qd rfl rfl rfl rfl rfl rfl (fun _=>JJ (Gs.lg (M:=(b6,.var xd.v,TR)::(b2,.var (.agg #[.int .i64 0,.int .i64 0,.slice none 0 0]),TM)::(b1,.var (.agg #[.int .i64 (i:Int),.int .i64 (i:Int),.slice pa (i*i) cm]),TM)::(Do++(F.flatten++(Dp++M)))) hro hgs2 sb |>.up uc sb) (by omega) (by omega) (by omega)) ?_
   rintro v6 U6 D6 hU6 ⟨⟨_,rfl,p6,c6,vs6,rfl,h6,e6⟩,-⟩
   refine Qg ?_ (perm3 (D:=D6))
   repeat (first|refine Qc ?_|refine Qb fun _=>?_|refine w_al fun _=>?_)
   refine Qe D6 sym rfl (.cons (.cell 1 rfl rfl rfl) (.cons (.tmp rfl) .nil)) uc sb (.inl rfl) ⟨i,R,p,_,0,rfl,hE,(fun e=>absurd e (by omega)),(fun _=>⟨rfl,fun k j=>R k (i+j),⟨_,rfl,p6,c6,vs6,rfl,h6,e6⟩,fun a j ha hj=>?_,fun a j ha hj=>hsz a (i+j) ha (by omega)⟩),uc⟩
   rw [← l1.full.2 a j ha hj]
   exact (La.sp_aug.1 (hred.span.lt a ha) j hj).symm
theorem vD {n b:Nat} {vm:Value} {A:Nat→Nat→Rat} (hm:Vx M b n n U vm A) (hb1:1≤b) (hg1:1+n*La.gro b n≤1000000000) (hgW:La.gro b n≤1000000000) (hn1:n≤1000) :
  Ct Try.prog 12 [vm] G U M fun v U' D=>∃ (r:Nat) (R:Nat→Nat→Rat) (p:Nat→Nat) (vX:Value) (e:Int),v = .tuple #[vX,.int .i64 e]∧EchOf n n r A R p∧(r < n→e=11∧vX = .agg #[.int .i64 0,.int .i64 0,.slice none 0 0]) ∧
   (r=n→e=0∧∃ X:Nat→Nat→Rat,Vm Vq n n U' vX X∧(∀ i j,i < n→j < n→La.mm n X A i j=La.idm i j)∧∀ i j,i < n→j < n→Szq (X i j) (La.gro b n))∧D=[] :=
 (Qag hm hb1 hg1 hgW hn1).settle.mono fun _ _ _ _ ⟨h1,_,_,⟨r,R,p,vX,e,h2,h3,h4,h5,_⟩,_,h7,h8⟩ =>
  ⟨r,R,p,vX,e,h2,h3,fun hr=>⟨(h4 hr).1,(h4 hr).2.1⟩,fun hr=>by
   obtain ⟨h9,X,⟨a,h10,h11⟩,h12⟩:=h5 hr
   exact ⟨h9,X,⟨a,h10,h11.sett QA h7 h8⟩,h12⟩,h1⟩
end Go.Proofs.Ytahcddpdgpjbnaa
