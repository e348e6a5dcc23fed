/- Matrices in the caller's memory: Echelon, Kernel (printed by gen302.py) -/
import Derived.Test.YtahcddpdgpjbnaaB302
import Derived.Test.YtahcddpdgpjbnaaM36
namespace Go.Proofs.Ytahcddpdgpjbnaa
open Go.Hp
variable {G:World} {U U':UH} {M M':MH}
theorem yO {m n b w0:Nat} {vm:Value} {A:Nat→Nat→Rat} (hm:Vx M b m n U vm A) (hb1:1≤b) (hw0:m≤w0∨n≤w0) (hgro:1+w0*La.gro b w0≤1000000000) (hgro2:La.gro b w0≤1000000000) (hm1:m≤1000) (hn1:n≤1000) :
  Ct Try.prog 10 [vm] G U M fun v U' D=>∃ (r:Nat) (R:Nat→Nat→Rat) (p:Nat→Nat) (vR vp:Value) (D1 D2:MH),v = .tuple #[vR,vp,.int .i64 0]∧Vmo r n U' D1 vR R∧Lo Vi TInt 1 r U' D2 vp p∧D=D1++D2∧ULe U U' ∧
   EchOf m n r A R p∧∀ i j,i < r→j < n→Szq (R i j) (La.gro b w0):=by
 have hmn:m*n≤1000*1000:=Nat.mul_le_mul hm1 hn1
 have hb:b≤1000000000:=Nat.le_trans (La.gro_le (k:=b) (Nat.zero_le w0)) hgro2
 have hm2:=hm
 obtain ⟨_,rfl,pa,cm,ms,rfl,-⟩:=hm
 refine Qf Try.func10 rfl rfl rfl rfl ?_
 repeat (first|refine Qc ?_|refine Qb fun _=>?_|refine w_al fun _=>?_)
 rename_i b1 b2
 refine Qd rfl rfl rfl rfl rfl rfl (fun _=>QI (r:=(m:Int)) (c:=(n:Int)) (n:=m*n) (p:=pa) (cc:=cm) (by omega)) ?_
 rintro v U' D hU ⟨rfl,rfl,rfl⟩
 repeat (first|refine Qc ?_|refine Qb fun _=>?_|refine w_al fun _=>?_)
 rw [decide_eq_true (Yd (by omega) (by omega))]
 repeat (first|refine Qc ?_|refine Qb fun _=>?_|refine w_al fun _=>?_)
 refine Qd rfl rfl rfl rfl rfl rfl (fun _=>Yx (hm2.upx uc sb) (by omega) (by omega) (by omega) (by omega)) ?_
 rintro v1 U1 D1 hU1 ⟨hg,-⟩
 refine Qg ?_ (perm2 (D:=D1))
 repeat (first|refine Qc ?_|refine Qb fun _=>?_|refine w_al fun _=>?_)
 refine Jp rfl rfl rfl rfl rfl rfl ((JR (X:=(b2,.var (.agg #[.int .i64 0,.int .i64 0,.slice none 0 0]),TM)::(b1,.var (.agg #[.int .i64 (m:Int),.int .i64 (n:Int),.slice pa (m*n) cm]),TM)::M) (cl:=n) hg.w (fun i j hi hj=>hm2.sz hb1 hi hj) (Nat.le_refl n) hb1 hw0 hgro hgro2 (by omega) (by omega)).perm pm) ?_
 rintro v2 U2 M2 hU2 ⟨-,r,R,p,vp,xd,d,D',Dp,rfl,rfl,hg2,⟨pp,cp,pvs,rfl,hrp,ep⟩,hd,hred,hrw,hsz,hsd⟩
 refine Qg (M':=(b2,.var (.agg #[.int .i64 0,.int .i64 0,.slice none 0 0]),TM)::(b1,.var (.agg #[.int .i64 (m:Int),.int .i64 (n:Int),.slice pa (m*n) cm]),TM)::(D'++(Dp++M))) ?_ pm
 have hrm:=hred.le
 have hg3:=hg2.lg (M:=(b2,.var (.agg #[.int .i64 0,.int .i64 0,.slice none 0 0]),TM)::(b1,.var (.agg #[.int .i64 (m:Int),.int .i64 (n:Int),.slice pa (m*n) cm]),TM)::(D'++(Dp++M))) sb
 obtain ⟨Do,F,pg,cg,svs,rfl,rfl,hro,hgs⟩:=hg2
 have hcg:=hro.len
 have hrn:r*n≤1000*1000:=Nat.mul_le_mul (by omega) hn1
 try refine Qa ?_
 refine Qq [0,1,2,3,4,5,7,6,8,9,10] sym (by kernel_rfl) ?_
 try refine Qa ?_
 refine QdP (h:=r) (c:=cg) (by omega) ?_
 try refine Qa ?_
 refine Qd rfl rfl rfl rfl rfl rfl (fun _=>JJ (hg3.take hrm |>.up uc sb) (by omega) (by omega) (by omega)) ?_
 rintro v4 U4 D4 hU4 ⟨⟨_,rfl,p4,c4,vs4,rfl,h4,e4⟩,-⟩
 refine Qg ?_ (perm2 (D:=D4))
 repeat (first|refine Qc ?_|refine Qb fun _=>?_|refine w_al fun _=>?_)
 exact Qe (D4++Dp) sym rfl (.cons (.cell 0 rfl rfl rfl) (.cons (.tmp rfl) (.cons (.tmp rfl) .nil))) uc sb (.inl rfl) ⟨r,R,p,_,_,D4,Dp,rfl,⟨_,rfl,p4,c4,vs4,rfl,h4,e4⟩,⟨pp,cp,pvs,rfl,hrp,ep.up VB uc⟩,rfl,uc,hred.echof,fun i j hi hj=>(hsz i j (by omega) hj).mono (La.gro_le hrw)⟩
theorem yk {m n b w0:Nat} {vm:Value} {A:Nat→Nat→Rat} (hm:Vx M b m n U vm A) (hb1:1≤b) (hw0:m≤w0∨n≤w0) (hgro:1+w0*La.gro b w0≤1000000000) (hgro2:La.gro b w0≤1000000000) (hm1:m≤1000) (hn1:n≤1000) :
  Ct Try.prog 10 [vm] G U M fun v U' D=>∃ (r:Nat) (R:Nat→Nat→Rat) (p:Nat→Nat) (vR vp:Value),v = .tuple #[vR,vp,.int .i64 0]∧Vm Vq r n U' vR R∧Ls Vi 1 r U' [] vp p∧D=[] ∧
   EchOf m n r A R p∧∀ i j,i < r→j < n→Szq (R i j) (La.gro b w0) :=
 (yO hm hb1 hw0 hgro hgro2 hm1 hn1).settle.mono fun _ _ _ _ ⟨h1,_,_,⟨r,R,p,vR,vp,_,_,h2,⟨a,h3,h9⟩,h4,h5,_,h6⟩,_,h7,h8⟩ =>
  ⟨r,R,p,vR,vp,h2,⟨a,h3,h9.sett QA h7 (h5 ▸ h8).left⟩,h4.sett VB h7 (h5 ▸ h8).right,h1,h6⟩
theorem Qaj {m n b:Nat} {vm:Value} {T:Nat→Nat→Rat} (hm:Vx M b m n U vm T) (hb1:1≤b) (hg1:1+m*La.gro b m≤1000000000) (hgW:La.gro b m≤1000000000) (hm1:m≤1000) (hn1:n≤1000) :
  Ct Try.prog 31 [vm] G U M fun v U' D=>∃ (s:Nat) (K:Nat→Nat→Rat) (q:Nat→Nat) (vg vp:Value) (D1 D2:MH),v = .tuple #[vg,vp]∧Go rW s m U' D1 vg K∧Lo Vi TInt 1 s U' D2 vp q∧D=D1++D2∧ULe U U' ∧
   La.KerOf m n s T K q∧(∀ i j,i < s→j < m→Szq (K i j) (La.gro b m))∧∃ (r:Nat) (R:Nat→Nat→Rat) (p:Nat→Nat),EchOf m n r T R p∧s+r=m:=by
 have hb:b≤1000000000:=Nat.le_trans (La.gro_le (k:=b) (Nat.zero_le m)) hgW
 obtain ⟨hmn,hmn2⟩:=jP hm1 hn1 hb
 have sT:∀ i j,i < m→j < n→Szq (T i j) b:=fun i j hi hj=>hm.sz hb1 hi hj
 have hm2:=hm
 obtain ⟨_,rfl,pa,cm,ms,rfl,-⟩:=hm
 refine Qf Try.func31 rfl rfl rfl rfl ?_
 repeat (first|refine Qc ?_|refine Qb fun _=>?_|refine w_al fun _=>?_)
 rename_i b1
 refine Qq [0,2,3,1,4,5,6] sym (by kernel_rfl) ?_
 try refine Qa ?_
 refine Qd rfl rfl rfl rfl rfl rfl (fun _=>Yx (hm2.upx uc sb) (by omega) (by omega) (by omega) (by omega)) ?_
 rintro v1 U1 D1 hU1 ⟨hgl,-⟩
 try refine Qa ?_
 refine Qd rfl rfl rfl rfl rfl rfl (fun _=>jr (n:=m) (by omega)) ?_
 rintro v2 U2 D2 hU2 ⟨hgu,-⟩
 try refine Qa ?_
 have hga:Lg m n U2 (D2++(D1++((b1,.var (.agg #[.int .i64 (m:Int),.int .i64 (n:Int),.slice pa (m*n) cm]),TM)::M))) v1 T:=(hgl.w.lg (M:=D2++(D1++((b1,.var (.agg #[.int .i64 (m:Int),.int .i64 (n:Int),.slice pa (m*n) cm]),TM)::M))) sb).up uc (List.Sublist.refl _)
 have hgb:Lg m m U2 (D2++(D1++((b1,.var (.agg #[.int .i64 (m:Int),.int .i64 (n:Int),.slice pa (m*n) cm]),TM)::M))) v2 La.idm:=hgu.w.lg (List.sublist_append_left ..)
 refine Qd rfl rfl rfl rfl rfl rfl (fun _=>jp (hga.up uc sb) (hgb.up uc sb) (by omega) (by omega) (by omega)) ?_
 rintro v3 U3 D3 hU3 ⟨hgd,-⟩
 rw [vO] at hgd
 refine Qg (M':=(b1,.var (.agg #[.int .i64 (m:Int),.int .i64 (n:Int),.slice pa (m*n) cm]),TM)::(D3++(D2++(D1++M)))) ?_ pm
 refine yJ (M':=(b1,.var (.agg #[.int .i64 (m:Int),.int .i64 (n:Int),.slice pa (m*n) cm]),TM)::(D3++M)) sbk ?_
 repeat (first|refine Qc ?_|refine Qb fun _=>?_|refine w_al fun _=>?_)
 refine Jp rfl rfl rfl rfl rfl rfl ((JR (X:=(b1,.var (.agg #[.int .i64 (m:Int),.int .i64 (n:Int),.slice pa (m*n) cm]),TM)::M) (cl:=n) hgd.w (Qcu hb1 sT) (Nat.le_add_right n m) hb1 (.inl (Nat.le_refl m)) hg1 hgW (by omega) (by omega)).perm pm) ?_
 rintro v4 U4 M4 hU4 ⟨-,r,R,p,vp,xd,d,D',Dp,rfl,rfl,hg4,⟨pp,cp,pvs,rfl,hrp,ep⟩,hd,hred,-,hsz,hsd⟩
 refine Qg (M':=(b1,.var (.agg #[.int .i64 (m:Int),.int .i64 (n:Int),.slice pa (m*n) cm]),TM)::(D'++(Dp++M))) ?_ pm
 have hrm:=hred.le
 obtain ⟨Do,F,pg,cg,svs,rfl,rfl,hro,hgs⟩:=hg4
 have hcg:=hro.len
 have hFl:F.length=m:=by rw [← hgs.1]; exact hcg.1
 repeat (first|refine Qc ?_|refine Qb fun _=>?_|refine w_al fun _=>?_)
 rename_i b6
 refine yQ (lo:=r) (n:=m) hrm hcg.2.1 ?_
 have rd0:=(hro.at (U:=U4) (M:=Do) (List.Sublist.refl _)).drop hrm hcg.2.1
 generalize (if cg=r then pg else pg.map (·.add (r*1)))=p2 at rd0 ⊢
 repeat (first|refine Qc ?_|refine Qb fun _=>?_|refine w_al fun _=>?_)
 refine JY (M:=(b6,.var xd.v,TR)::(b1,.var (.agg #[.int .i64 (m:Int),.int .i64 (n:Int),.slice pa (m*n) cm]),TM)::((Do++F.flatten)++(Dp++M))) (M':=(b6,.var xd.v,TR)::(b1,.var (.agg #[.int .i64 (m:Int),.int .i64 (n:Int),.slice pa (m*n) cm]),TM)::([]++(Do++(F.flatten++(Dp++M))))) pm ?_
 refine Qm (fun z E U' M'=>∃ (i:Nat) (pk:Option Addr) (ck:Nat) (kvs:List Value) (Dk:MH),i≤m - r∧RowO TRs 1 Dk pk i ck kvs∧Gs rW m U' kvs ((F.drop r).take i) (fun a j=>R (r+a) (n+j)) ∧
   E=[(30,.int .i64 (i:Int)),(28,.slice p2 (m - r) (cg - r)),(29,.int .i64 ((m - r:Nat):Int)),(7,.slice pk i ck),(1,.pointer (some ⟨b1,0,none⟩))]∧U4=U' ∧
   M'=(b6,.var xd.v,TR)::(b1,.var (.agg #[.int .i64 (m:Int),.int .i64 (n:Int),.slice pa (m*n) cm]),TM)::(Dk++(Do++(F.flatten++(Dp++M))))∧z=m - r - i) (n0:=m - r)
  (E0:=[(30,.int .i64 ((0:Nat):Int)),(28,.slice p2 (m - r) (cg - r)),(29,.int .i64 ((m - r:Nat):Int)),(7,.slice none 0 0),(1,.pointer (some ⟨b1,0,none⟩))]) ⟨rfl,rfl,rfl,rfl,rfl,trivial⟩ ⟨0,none,0,[],[],by omega,RowO.nil,Gs.nil,rfl,rfl,rfl,rfl⟩ ?_
 rintro z E U5 M' ⟨i,pk,ck,kvs,Dk,hi,hrk,hgk,rfl,rfl,rfl,rfl⟩
 try refine Qa ?_
 refine Qk rfl (fun h=>?_) (fun h=>?_)
 ·have hir:r+i < m:=by omega
  have rd:=rd0.up (U':=U4) (M':=(b6,.var xd.v,TR)::(b1,.var (.agg #[.int .i64 (m:Int),.int .i64 (n:Int),.slice pa (m*n) cm]),TM)::(Dk++(Do++(F.flatten++(Dp++M))))) uc sb
  have hvs:r+i < svs.length:=by rw [hcg.1]; exact hir
  have hv:=List.getElem?_eq_getElem hvs
  have hFi:=List.getElem?_eq_getElem (show r+i < F.length by omega)
  generalize svs[r+i]=v5 at hv
  generalize F[r+i]=Di at hFi
  obtain ⟨q,c',vs,rfl,hcc,hR,hel⟩:=hgs.2 _ _ _ hv hFi
  have hvd:(svs.drop r)[i]?=some (.slice q (n+m) c'):=by rw [List.getElem?_drop]; exact hv
  try refine Qa ?_
  refine sl_y (Qj sym rfl rfl rfl rfl rfl rfl (rd.lt hvd) (rd.get _ _ hvd).1) rfl rfl rfl rfl ?_; refine sl_y (Qp sym rfl rfl rfl rfl rd hvd rfl) rfl rfl rfl rfl ?_
  try refine Qa ?_
  refine yQ (lo:=n) (n:=n+m) (by omega) hcc ?_
  have hpart:=hR.part (lo:=n) (hi:=n+m) (by omega) (Nat.le_refl _) hcc
  have e1:n+m - n=m:=by omega
  rw [e1] at hpart ⊢
  generalize (if c'=n then q else q.map (·.add (n*4)))=q2 at hpart ⊢
  refine yw hrk (perm2 (D:=_)).symm (fun bhr2 phr2 chr2 Dhr2 hr2=>?_)
  refine Qg ?_ (perm2 (D:=Dhr2))
  repeat (first|refine Qc ?_|refine Qb fun _=>?_|refine w_al fun _=>?_)
  have hnext:(F.drop r).take i++[Di]=(F.drop r).take (i+1):=by rw [List.take_add_one,List.getElem?_drop,hFi]; rfl
  refine Qi (E':=[(30,.int .i64 ((i:Int)+1)),(28,.slice p2 (m - r) (cg - r)),(29,.int .i64 ((m - r:Nat):Int)),(7,.slice phr2 (i+1) chr2),(1,.pointer (some ⟨b1,0,none⟩))]) (m:=m - r - (i+1)) ⟨rfl,rfl,rfl,rfl,rfl,trivial⟩ (by omega)
   ⟨i+1,phr2,chr2,_,Dhr2,by omega,hr2,?_,rfl,rfl,rfl,rfl⟩
  rw [← hnext]
  refine hgk.snoc (n:=i) hrk.len.1 (by omega) hpart (fun k x hk=>?_)
  rw [List.getElem?_take] at hk
  split at hk
  ·rw [List.getElem?_drop] at hk
   exact hel _ _ hk
  ·cases hk
 ·have e:i=m - r:=by omega
  subst e
  have htk:(F.drop r).take (m - r)=F.drop r:=List.take_of_length_le (by rw [List.length_drop]; omega)
  rw [htk] at hgk
  have hFs:F.flatten=(F.take r).flatten++(F.drop r).flatten:=by rw [← List.flatten_append,List.take_append_drop]
  try refine Qa ?_
  rw [hFs]
  have hga:La.gro (La.gro b r) (m - r)=La.gro b m:=by rw [La.gro_add,show r+(m - r)=m by omega]
  refine Jp rfl rfl rfl rfl rfl rfl ((JR (m:=m - r) (n:=m) (k:=La.gro b r) (D:=Dk++(F.drop r).flatten) (X:=(b6,.var xd.v,TR)::(b1,.var (.agg #[.int .i64 (m:Int),.int .i64 (n:Int),.slice pa (m*n) cm]),TM)::(Do++((F.take r).flatten++(Dp++M)))) (cl:=m) ⟨Dk,F.drop r,pk,ck,kvs,rfl,rfl,hrk,hgk⟩ (fun a j ha hj=>hsz (r+a) (n+j) (by omega) (by omega)) (Nat.le_refl m) (Nat.le_trans hb1 (La.gro_ge b r)) (.inl (Nat.le_refl _)) (by rw [hga]; exact Nat.le_trans (Nat.add_le_add_left (Nat.mul_le_mul_right _ (Nat.sub_le m r)) 1) hg1) (by rw [hga]; exact hgW) (by omega) (by omega)).perm pm) ?_
  rintro v6 U6 M6 hU6 ⟨-,r2,R2,q2,vp2,xd2,d2,D2',Dp2,rfl,rfl,hg6,⟨pp2,cp2,pvs2,rfl,hrp2,ep2⟩,hd2,hred2,hrw2,hsz2,hsd2⟩
  have e2:=hred2.echof
  obtain ⟨hk,hr2m⟩:=La.red_kerof hred e2.ech e2.same
  subst hr2m
  refine Qg (M':=(b6,.var xd.v,TR)::(b1,.var (.agg #[.int .i64 (m:Int),.int .i64 (n:Int),.slice pa (m*n) cm]),TM)::(D2'++(Dp2++(Do++((F.take r).flatten++(Dp++M)))))) ?_ pm
  obtain ⟨Do2,F2,pg2,cg2,svs2,rfl,hge,hro2,hgs2⟩:=hg6
  obtain ⟨rfl,-,rfl⟩:=Value.slice.inj hge
  repeat (first|refine Qc ?_|refine Qb fun _=>?_|refine w_al fun _=>?_)
  obtain ⟨l1,l2⟩:=La.red_left hred
  exact Qe ((Do2++F2.flatten)++Dp2) sym rfl (.cons (.tmp rfl) (.cons (.tmp rfl) .nil)) uc sb (.inl rfl) ⟨m - r,R2,q2,_,_,Do2++F2.flatten,Dp2,rfl,⟨Do2,F2,_,_,svs2,rfl,rfl,hro2,hgs2⟩,⟨pp2,cp2,pvs2,rfl,hrp2,ep2⟩,rfl,uc,hk,
   fun a j ha hj=>(hsz2 a j ha hj).mono (by rw [← hga]; exact La.gro_le hrw2),r,R,p,⟨l1,l2,hrm⟩,by omega⟩
theorem vM {m n b:Nat} {vm:Value} {T:Nat→Nat→Rat} (hm:Vx M b m n U vm T) (hb1:1≤b) (hg1:1+m*La.gro b m≤1000000000) (hgW:La.gro b m≤1000000000) (hm1:m≤1000) (hn1:n≤1000) :
  Ct Try.prog 11 [vm] G U M fun v U' D=>∃ (s:Nat) (K:Nat→Nat→Rat) (q:Nat→Nat) (vK:Value),v = .tuple #[vK,.int .i64 0]∧Vmo s m U' D vK K∧ULe U U' ∧
   La.KerOf m n s T K q∧(∀ i j,i < s→j < m→Szq (K i j) (La.gro b m))∧∃ (r:Nat) (R:Nat→Nat→Rat) (p:Nat→Nat),EchOf m n r T R p∧s+r=m:=by
 have hmn:m*n≤1000*1000:=Nat.mul_le_mul hm1 hn1
 have hm2:=hm
 obtain ⟨_,rfl,pa,cm,ms,rfl,-⟩:=hm
 refine Qf Try.func11 rfl rfl rfl rfl ?_
 repeat (first|refine Qc ?_|refine Qb fun _=>?_|refine w_al fun _=>?_)
 rename_i b1 b2
 refine Qd rfl rfl rfl rfl rfl rfl (fun _=>QI (r:=(m:Int)) (c:=(n:Int)) (n:=m*n) (p:=pa) (cc:=cm) (by omega)) ?_
 rintro v U' D hU ⟨rfl,rfl,rfl⟩
 repeat (first|refine Qc ?_|refine Qb fun _=>?_|refine w_al fun _=>?_)
 rw [decide_eq_true (Yd (by omega) (by omega))]
 repeat (first|refine Qc ?_|refine Qb fun _=>?_|refine w_al fun _=>?_)
 refine Qd rfl rfl rfl rfl rfl rfl (fun _=>Qaj (hm2.upx uc sb) hb1 hg1 hgW hm1 hn1) ?_
 rintro v1 U1 D hU1 ⟨s,K,q,vg,vp,D1,D2,rfl,hg,⟨pp,cp,pvs,rfl,hrp,ep⟩,rfl,-,hk,hsz,hr⟩
 have hsm:=hk.ech.le_n
 have hsm2:s*m≤1000*1000:=Nat.mul_le_mul (by omega) hm1
 refine Qg (M':=(b2,.var (.agg #[.int .i64 0,.int .i64 0,.slice none 0 0]),TM)::(b1,.var (.agg #[.int .i64 (m:Int),.int .i64 (n:Int),.slice pa (m*n) cm]),TM)::(D1++(D2++M))) ?_ pm
 repeat (first|refine Qc ?_|refine Qb fun _=>?_|refine w_al fun _=>?_)
 refine Qd rfl rfl rfl rfl rfl rfl (fun _=>JJ (hg.lg (M:=(b2,.var (.agg #[.int .i64 0,.int .i64 0,.slice none 0 0]),TM)::(b1,.var (.agg #[.int .i64 (m:Int),.int .i64 (n:Int),.slice pa (m*n) cm]),TM)::(D1++(D2++M))) sb |>.up uc sb) (by omega) (by omega) (by omega)) ?_
 rintro v4 U4 D4 hU4 ⟨⟨_,rfl,p4,c4,vs4,rfl,h4,e4⟩,-⟩
 refine Qg ?_ (perm2 (D:=D4))
 repeat (first|refine Qc ?_|refine Qb fun _=>?_|refine w_al fun _=>?_)
 exact Qe D4 sym rfl (.cons (.cell 0 rfl rfl rfl) (.cons (.tmp rfl) .nil)) uc sb (.inl rfl) ⟨s,K,q,_,rfl,⟨_,rfl,p4,c4,vs4,rfl,h4,e4⟩,uc,hk,hsz,hr⟩
theorem vW {m n b:Nat} {vm:Value} {T:Nat→Nat→Rat} (hm:Vx M b m n U vm T) (hb1:1≤b) (hg1:1+m*La.gro b m≤1000000000) (hgW:La.gro b m≤1000000000) (hm1:m≤1000) (hn1:n≤1000) :
  Ct Try.prog 11 [vm] G U M fun v U' D=>∃ (s:Nat) (K:Nat→Nat→Rat) (q:Nat→Nat) (vK:Value),v = .tuple #[vK,.int .i64 0]∧Vm Vq s m U' vK K∧D=[] ∧
   La.KerOf m n s T K q∧(∀ i j,i < s→j < m→Szq (K i j) (La.gro b m))∧∃ (r:Nat) (R:Nat→Nat→Rat) (p:Nat→Nat),EchOf m n r T R p∧s+r=m :=
 (vM hm hb1 hg1 hgW hm1 hn1).settle.mono fun _ _ _ _ ⟨h1,_,_,⟨s,K,q,vK,h2,⟨a,h3,h9⟩,_,h6⟩,_,h7,h8⟩ =>
  ⟨s,K,q,vK,h2,⟨a,h3,h9.sett QA h7 h8⟩,h1,h6⟩
end Go.Proofs.Ytahcddpdgpjbnaa
