/- Walks of matrix: elimination. -/
import Derived.Test.YthnnlgjlhnmhnaaGreatM22
import Derived.Test.YthnnlgjlhnmhnaaGreatM19
namespace Go.Proofs.YthnnlgjlhnmhnaaGreat
open Go.Hp
variable {G:World} {U U':UH} {M M':MH}
theorem QY {α:Type} {B D R T W:List α} (h:W.Perm (D++R)):(B++(W++T)).Perm (D++(B++(R++T))) :=
 ((h.append_right T).append_left B).trans pm
theorem pickF {α:Type} {F:List (List α)} {i:Nat} {D:List α} (h:F[i]?=some D):F.flatten.Perm (D++((F.take i).flatten++(F.drop (i+1)).flatten)):=by
 obtain ⟨hi,hx⟩:=List.getElem?_eq_some_iff.1 h
 have e:F=F.take i++D::F.drop (i+1):=by
  rw [← hx,List.getElem_cons_drop,List.take_append_drop]
 have e2:F.flatten=(F.take i).flatten++(D++(F.drop (i+1)).flatten):=by
  conv=>lhs; rw [e]
  rw [List.flatten_append,List.flatten_cons]
 rw [e2]
 exact List.perm_append_comm_assoc ..
theorem putF {α:Type} {F:List (List α)} {i:Nat} {D:List α} (hi:i < F.length):(F.set i D).flatten.Perm (D++((F.take i).flatten++(F.drop (i+1)).flatten)):=by
 have h:=pickF (F:=F.set i D) (i:=i) (D:=D) (by rw [List.getElem?_set_self hi])
 rwa [List.take_set_of_le (Nat.le_refl i),List.drop_set_of_lt (Nat.lt_succ_self i)] at h
theorem jf {α:Type} (f:α→Nat) (a:α):∀ {l:List α} {i:Nat} (h:i < l.length),((l.set i a).map f).sum+f l[i]=(l.map f).sum+f a
 | x::l,0,_=>by simp; omega
 | x::l,i+1,h=>by
  have:=jf f a (l:=l) (i:=i) (by simpa using h)
  simp only [List.set_cons_succ,List.map_cons,List.sum_cons,List.getElem_cons_succ]
  omega
theorem Qed {α:Type} {l:List α} {r i:Nat} (hr:r < l.length) (hi:i < l.length):((l.set i l[r]).set r l[i]).Perm l :=
 pm fun f=>by
  have h1:=jf f l[r] hi
  have h2:=jf f l[i] (l:=l.set i l[r]) (i:=r) (by simpa using hr)
  have h3:(l.set i l[r])[r]'(by simpa using hr)=l[r]:=by
   rw [List.getElem_set]; split<;>rfl
  rw [h3] at h2
  omega
theorem Gs.congr {R:MH→Option Addr→Nat→Nat→List Value→Prop} {c n:Nat} {svs:List Value} {F:List MH} {A B:Nat→Nat→Rat} (h:Gs R c U svs F A) (hl:svs.length=n) (hR:∀ D q c' vs,R D q c c' vs→vs.length=c) (hz:∀ i j,i < n→j < c→A i j=B i j):Gs R c U svs F B :=
 ⟨h.1,fun i v D h1 h2=>by
  obtain ⟨q,c',vs,h3,h4,h5,h6⟩:=h.2 i v D h1 h2
  exact ⟨q,c',vs,h3,h4,h5,h6.congr (hR _ _ _ _ h5) fun j hj=>hz i j (by rw [← hl]; exact (List.getElem?_eq_some_iff.1 h1).1) hj⟩⟩
theorem QfN {α:Type} {F:List (List α)} {i j:Nat} {D:List α} (h:F[i]?=some D) (hne:i≠j):D.Sublist ((F.take j).flatten++(F.drop (j+1)).flatten):=by
 rcases Nat.lt_or_gt_of_ne hne with h1 | h1
 ·refine (List.sublist_flatten_of_mem ?_).trans (List.sublist_append_left ..)
  exact List.mem_of_getElem? (i:=i) (by rw [List.getElem?_take,if_pos h1]; exact h)
 ·refine (List.sublist_flatten_of_mem ?_).trans (List.sublist_append_right ..)
  exact List.mem_of_getElem? (i:=i - (j+1)) (by rw [List.getElem?_drop,show j+1+(i - (j+1))=i by omega]; exact h)
theorem Gs.swap {R:MH→Option Addr→Nat→Nat→List Value→Prop} {c r i:Nat} {svs:List Value} {F:List MH} {A:Nat→Nat→Rat} (h:Gs R c U svs F A) (hr:r < svs.length) (hi:i < svs.length) :
  ∃ vr vi F',svs[r]?=some vr∧svs[i]?=some vi∧F'.flatten.Perm F.flatten∧Gs R c U ((svs.set i vr).set r vi) F' (La.swap A r i):=by
 have hrF:r < F.length:=by rw [← h.1]; exact hr
 have hiF:i < F.length:=by rw [← h.1]; exact hi
 refine ⟨svs[r],svs[i],(F.set i F[r]).set r F[i],List.getElem?_eq_getElem hr,List.getElem?_eq_getElem hi,?_,?_,?_⟩
 ·exact List.Perm.flatten (Qed hrF hiF)
 ·simp [h.1]
 ·intro k v D hv hD
  have key:∀ {a b:Nat} {v:Value} {D:MH},svs[a]?=some v→F[a]?=some D→A a=La.swap A r i b→∃ q c' vs,v = .slice q c c'∧c≤c'∧R D q c c' vs∧El Vq U vs (La.swap A r i b):=fun h1 h2 h3=>by
   rw [← h3]; exact h.2 _ _ _ h1 h2
  by_cases e:k=r
  ·subst e
   rw [List.getElem?_set_self (by simpa using hr)] at hv
   rw [List.getElem?_set_self (by simpa using hrF)] at hD
   exact key (a:=i) ((List.getElem?_eq_getElem hi).trans hv) ((List.getElem?_eq_getElem hiF).trans hD) La.swap_at.1.symm
  ·rw [List.getElem?_set_ne (Ne.symm e)] at hv hD
   by_cases e2:k=i
   ·subst e2
    rw [List.getElem?_set_self hi] at hv
    rw [List.getElem?_set_self hiF] at hD
    exact key (a:=r) ((List.getElem?_eq_getElem hr).trans hv) ((List.getElem?_eq_getElem hrF).trans hD) La.swap_at.2.symm
   ·rw [List.getElem?_set_ne (Ne.symm e2)] at hv hD
    exact key (a:=k) hv hD (La.swap_ne e e2).symm
theorem Qcf {m n cl k w0:Nat} {X D:MH} {vg:Value} {A0:Nat→Nat→Rat} (hgrid:Go rW m n U D vg A0) (hs:∀ i j,i < m→j < n→Szq (A0 i j) k) (hcl:cl≤n) (_:1≤k) (hw0:m≤w0∨cl≤w0) (hgro:1+w0*La.gro k w0≤1000000000) (hgro2:La.gro k w0≤1000000000) (hn:n≤1000000) (hm:m≤1000000) :
  Cx Tryz.prog 101 [vg,.int .i64 (cl:Int)] G U (D++X) fun v U' M'=>ULe U U'∧∃ (r:Nat) (R:Nat→Nat→Rat) (p:Nat→Nat) (vp:Value) (xd:QV) (d:Rat) (D' Dp:MH),v = .tuple #[vp,xd.v]∧M'=D'++(Dp++X)∧Go rW m n U' D' vg R∧Lo Vi TInt 1 r U' Dp vp p∧xd.nrm U' [] d ∧
   La.Red m n cl r A0 R p d∧r≤w0∧(∀ i j,i < m→j < n→Szq (R i j) (La.gro k r))∧Szq d (1+w0*La.gro k w0):=by
 obtain ⟨Do,F,pg,cg,svs,rfl,rfl,hro,hg⟩:=hgrid
 rw [List.append_assoc]
 refine JX Tryz.func101 rfl rfl rfl rfl ?_
 repeat (first|refine Qc ?_|refine Qa fun _=>?_|refine w_al fun _=>?_)
 rename_i b5
 refine Qd rfl rfl rfl rfl rfl rfl (fun _=>(VU (z:=1) (by decide) (by decide)).settle) ?_
 rintro v Uh1 D hU ⟨rfl,_,_,⟨xh1,rfl,h1,-⟩,-,-,hs⟩
 replace h1:=h1.sett hs
 clear hs
 repeat (first|refine Qc ?_|refine Qa fun _=>?_|refine w_al fun _=>?_)
 rename_i b7
 refine Ql (fun z E U' M'=>∃ (c r:Nat) (g:Nat→Nat→Rat) (p:Nat→Nat) (svs:List Value) (Do:MH) (F:List MH) (pp:Option Addr) (cp:Nat) (pvs:List Value) (Dp:MH) (xd:QV) (d:Rat),
   c≤cl∧r≤m∧RowO TRs 1 Do pg m cg svs∧Gs rW n U' svs F g∧RowO TInt 1 Dp pp r cp pvs∧El Vi U' pvs p∧xd.nrm U' [] d∧La.Elm m n A0 c r g p (m - r) (fun s=>g (r+s))∧(m=n→La.Rop n d A0 g)∧(∀ i j,i < m→j < n→Szq (g i j) (La.gro k r))∧Szq d (1+r*La.gro k w0) ∧
   E=[(8,.int .i64 (c:Int)),(6,.slice pp r cp),(7,.pointer (some ⟨b7,0,none⟩)),(5,.pointer (some ⟨b5,0,none⟩)),(0,.slice pg m cg),(1,.int .i64 (cl:Int))]∧ULe U U'∧M'=(b7,.var xd.v,TR)::(b5,.var zeroQV.v,TR)::(Do++(F.flatten++(Dp++X)))∧z=cl - c) (n0:=cl)
  (E0:=[(8,.int .i64 ((0:Nat):Int)),(6,.slice none 0 0),(7,.pointer (some ⟨b7,0,none⟩)),(5,.pointer (some ⟨b5,0,none⟩)),(0,.slice pg m cg),(1,.int .i64 (cl:Int))]) ⟨rfl,rfl,rfl,rfl,rfl,rfl,trivial⟩
  ⟨0,0,A0,id,svs,Do,F,none,0,[],[],xh1,1,by omega,by omega,hro,hg.up uc,RowO.nil,El.nil,h1,by simpa using La.Elm.start (R:=A0) (p:=id) |> fun z=>z,(fun _=>La.Rop.refl n A0),hs,QbR.mono (by omega),rfl,uc,rfl,rfl⟩ ?_
 clear hro hg h1
 rintro z E U1 M' ⟨c,r,g,p,svs,Do,F,pp,cp,pvs,Dp,xd,d,hc,hr,hro,hg,hrp,ep,hd,hE,hrop,sg,sd,rfl,hU1,rfl,rfl⟩
 have hsl:=hro.len.1
 have hrc:=hE.le_c
 have hrw:r≤w0:=by omega
 have hrw1:Hold (c < cl→r < m→r+1≤w0):=⟨fun h1 h2=>by omega⟩
 clear hw0
 have hmono:La.gro k r≤La.gro k w0:=La.gro_le hrw
 have hfin:(c=cl∨r=m)→∃ (r':Nat) (R:Nat→Nat→Rat) (p':Nat→Nat) (vp:Value) (xd':QV) (d':Rat) (D' Dp':MH),tup [.slice pp r cp,xd.v] = .tuple #[vp,xd'.v]∧Do++(F.flatten++(Dp++X))=D'++(Dp'++X)∧Go rW m n U1 D' (.slice pg m cg) R∧Lo Vi TInt 1 r' U1 Dp' vp p'∧xd'.nrm U1 [] d' ∧
   La.Red m n cl r' A0 R p' d'∧r'≤w0∧(∀ i j,i < m→j < n→Szq (R i j) (La.gro k r'))∧Szq d' (1+w0*La.gro k w0):=fun hdn =>
  ⟨r,g,p,_,xd,d,Do++F.flatten,Dp,rfl,(List.append_assoc ..).symm,⟨Do,F,pg,cg,svs,rfl,rfl,hro,hg⟩,⟨pp,cp,pvs,rfl,hrp,ep⟩,hd,hE.red hr hc hdn hrop,hrw,fun i j hi hj=>sg i j hi hj,sd.mono (by
   have:=Nat.mul_le_mul_right (La.gro k w0) hrw
   omega)⟩
 try refine Qb ?_
 refine Qw rfl rfl (fun h1=>?_) (fun h1=>?_)
 ·have hcc:c < cl:=by omega
  have hcn:c < n:=by omega
  try refine Qb ?_
  refine Qi rfl (fun h2=>?_) (fun h2=>?_)
  ·have hrm:r < m:=by omega
   try refine Qb ?_
   refine Ql (fun z E U' M'=>∃ i:Nat,r≤i∧i≤m∧(∀ u,r≤u→u < i→g u c=0)∧E=[(10,.int .i64 (i:Int)),(9,.int .i64 (r:Int)),(8,.int .i64 (c:Int)),(6,.slice pp r cp),(7,.pointer (some ⟨b7,0,none⟩)),(5,.pointer (some ⟨b5,0,none⟩)),(0,.slice pg m cg),(1,.int .i64 (cl:Int))]∧U1=U'∧M'=(b7,.var xd.v,TR)::(b5,.var zeroQV.v,TR)::(Do++(F.flatten++(Dp++X)))∧z=m - i) (n0:=m - r)
    (E0:=[(10,.int .i64 (r:Int)),(9,.int .i64 (r:Int)),(8,.int .i64 (c:Int)),(6,.slice pp r cp),(7,.pointer (some ⟨b7,0,none⟩)),(5,.pointer (some ⟨b5,0,none⟩)),(0,.slice pg m cg),(1,.int .i64 (cl:Int))]) ⟨rfl,rfl,rfl,rfl,rfl,rfl,rfl,rfl,trivial⟩ ⟨r,Nat.le_refl _,hr,(fun u h1 h2=>absurd h1 (by omega)),rfl,rfl,rfl,rfl⟩ ?_
   rintro z E U' M' ⟨i,hri,him,hz,rfl,rfl,rfl,rfl⟩
   try refine Qb ?_
   refine Qw rfl rfl (fun h3=>?_) (fun h3=>?_)
   ·have hi:i < m:=by omega
    have rA:=hro.at (U:=U1) (M:=(b7,.var xd.v,TR)::(b5,.var zeroQV.v,TR)::(Do++(F.flatten++(Dp++X)))) sb
    obtain ⟨q,c',vs,Di,hv,hFi,hcc',hR,hel,hiF,-⟩:=hg.put (i:=i) (by omega)
    have rB:=hR.at (U:=U1) (M:=(b7,.var xd.v,TR)::(b5,.var zeroQV.v,TR)::(Do++(F.flatten++(Dp++X)))) (((List.sublist_flatten_of_mem (List.mem_of_getElem? hFi)).trans (List.sublist_append_left ..)).trans sb)
    obtain ⟨v2,hv2⟩:=rB.at hcn
    obtain ⟨x2,rfl,hx2⟩:=hel _ _ hv2
    have sx:=sg i c hi hcn
    try refine Qb ?_
    refine sl_y (Qf sym rfl rfl rfl rfl rfl rfl (rA.lt hv) (rA.get _ _ hv).1) rfl rfl rfl rfl ?_; refine sl_y (Qk sym rfl rfl rfl rfl rA hv rfl) rfl rfl rfl rfl ?_
    try refine Qb ?_
    refine sl_y (Qf sym rfl rfl rfl rfl rfl rfl (rB.lt hv2) (rB.get _ _ hv2).1) rfl rfl rfl rfl ?_; refine sl_y (Qp sym rfl rfl rfl rfl rfl rB hv2) rfl rfl rfl rfl ?_
    refine Qd rfl rfl rfl rfl rfl rfl (fun _=>Yd (hx2.rep.up uc sb) (hx2.le sx (by omega))) ?_
    rintro v U' D hU ⟨rfl,rfl,rfl⟩
    repeat (first|refine Qc ?_|refine Qa fun _=>?_|refine w_al fun _=>?_)
    by_cases hq:g i c≠0
    ·rw [decide_eq_true hq]
     try refine Qb ?_
     refine JQ rfl (fun h=>absurd h (by omega)) (fun _=>?_)
     refine YQ ?_
     refine VN ?_
     have hW:1+r*La.gro k w0+La.gro k r≤1+w0*La.gro k w0:=by
      have:=Nat.mul_le_mul_right (La.gro k w0) (hrw1.out hcc hrm)
      rw [Nat.add_mul,Nat.one_mul] at this
      omega
     refine Qo (fun E U' M'=>∃ (svs:List Value) (Do:MH) (F:List MH) (xd1:QV) (d1:Rat),RowO TRs 1 Do pg m cg svs∧Gs rW n U' svs F (La.swap g r i)∧xd1.nrm U' [] d1∧Szq d1 (1+r*La.gro k w0)∧(m=n→La.Rop n d1 A0 (La.swap g r i)) ∧
       E=[(9,.int .i64 (r:Int)),(8,.int .i64 (c:Int)),(6,.slice pp r cp),(7,.pointer (some ⟨b7,0,none⟩)),(5,.pointer (some ⟨b5,0,none⟩)),(0,.slice pg m cg),(1,.int .i64 (cl:Int))]∧ULe U1 U'∧M'=(b7,.var xd1.v,TR)::(b5,.var zeroQV.v,TR)::(Do++(F.flatten++(Dp++X)))) ?_ ?_
     ·try refine Qb ?_
      refine QK rfl (fun h4=>?_) (fun h4=>?_)
      ·have hne:r≠i:=by omega
       obtain ⟨vr,vi,F2,hvr,hvi,hF2,hg2⟩:=hg.swap (r:=r) (i:=i) (by omega) (by omega)
       obtain ⟨qr,cr,-,-,hvr',-⟩:=hg.put (i:=r) (by omega)
       obtain rfl:vr=_:=Option.some.inj (hvr.symm.trans hvr')
       obtain rfl:vi=_:=Option.some.inj (hvi.symm.trans hv)
       have sd2:Szq (-d) (1+r*La.gro k w0):=sd.neg
       try refine Qb ?_
       refine Qx [12,13,14,15] [0,1,2,3,4,5,6,7,8,9,10,11,12,13,14,15] sym (by kernel_rfl) ?_
       try refine Qb ?_
       refine sl_y (Qf sym rfl rfl rfl rfl rfl rfl (rA.lt hvr) (rA.get _ _ hvr).1) rfl rfl rfl rfl ?_; refine sl_y (Qk sym rfl rfl rfl rfl rA hvr rfl) rfl rfl rfl rfl ?_
       try refine Qb ?_
       refine sl_y (Qf sym rfl rfl rfl rfl rfl rfl (rA.lt hvi) (rA.get _ _ hvi).1) rfl rfl rfl rfl ?_; refine sl_y (Qk sym rfl rfl rfl rfl rA hvi rfl) rfl rfl rfl rfl ?_
       refine QB (j:=i) hi (hro.some (by omega)) ?_
       refine QG (X:=(b7,.var xd.v,TR)::(b5,.var zeroQV.v,TR)::(F.flatten++(Dp++X))) hro pm hi (fun D2 hr2=>?_)
       refine QB (j:=r) hrm (hro.some (by omega)) ?_
       refine QG (X:=(b7,.var xd.v,TR)::(b5,.var zeroQV.v,TR)::(F.flatten++(Dp++X))) hr2 (List.Perm.refl _) hrm (fun D3 hr3=>?_)
       refine Qj (M':=(b7,.var xd.v,TR)::(b5,.var zeroQV.v,TR)::(D3++(F.flatten++(Dp++X)))) ?_ pm
       refine Qj (M':=(b7,.var xd.v,TR)::(b5,.var zeroQV.v,TR)::(D3++(F2.flatten++(Dp++X)))) ?_ ((((hF2.symm.append_right (Dp++X)).append_left D3).cons _).cons _)
       try refine Qb ?_
       refine Qd rfl rfl rfl rfl rfl rfl (fun _=>(yJ (hd.rep.up uc sb) (hd.le sd (by omega))).settle) ?_
       rintro v Uh5 D hU ⟨rfl,_,_,⟨xh5,rfl,h5,-⟩,-,-,hs⟩
       replace h5:=h5.sett hs
       clear hs
       repeat (first|refine Ji ?_|refine Qa fun _=>?_|refine w_al fun _=>?_)
       exact Qn (E':=[(9,.int .i64 (r:Int)),(8,.int .i64 (c:Int)),(6,.slice pp r cp),(7,.pointer (some ⟨b7,0,none⟩)),(5,.pointer (some ⟨b5,0,none⟩)),(0,.slice pg m cg),(1,.int .i64 (cl:Int))]) ⟨rfl,rfl,rfl,rfl,rfl,rfl,rfl,trivial⟩ ⟨_,D3,F2,xh5,-d,hr3,hg2.up uc,h5,sd2,(fun e=>(hrop e).swap (by omega) (by omega) hne),rfl,uc,rfl⟩
      ·have hne:r=i:=by omega
       subst hne
       try refine Qb ?_
       exact Qn (E':=[(9,.int .i64 (r:Int)),(8,.int .i64 (c:Int)),(6,.slice pp r cp),(7,.pointer (some ⟨b7,0,none⟩)),(5,.pointer (some ⟨b5,0,none⟩)),(0,.slice pg m cg),(1,.int .i64 (cl:Int))]) ⟨rfl,rfl,rfl,rfl,rfl,rfl,rfl,trivial⟩ ⟨svs,Do,F,xd,d,hro,by rw [La.swap_self]; exact hg,hd,sd,by rw [La.swap_self]; exact hrop,rfl,uc,rfl⟩
     ·rintro E U2 M' ⟨svs,Do,F,xd1,d1,hro,hg,hd1,sd1,hrop,rfl,hU2,rfl⟩
      have hsl:=hro.len.1
      obtain ⟨g1,hg1⟩:∃ g1:Nat→Nat→Rat,g1=La.swap g r i:=⟨_,rfl⟩
      have hgr:∀ j,g1 r j=g i j:=fun j=>by rw [hg1,La.swap_at.1]
      have sg1:∀ a j,a < m→j < n→Szq (g1 a j) (La.gro k r):=fun a j ha hj=>by
       rw [hg1]; unfold La.swap
       split
       ·exact sg i j hi hj
       ·split
        ·exact sg r j hrm hj
        ·exact sg a j ha hj
      have h0:g1 r c≠0:=by rw [hgr]; exact hq
      have hz0:∀ j,j < c→g1 r j=0:=fun j hj=>by
       rw [hgr]
       have:=hE.zero (i - r) j (by omega) hj
       rwa [show r+(i - r)=i by omega] at this
      rw [← hg1] at hg hrop
      obtain ⟨q,c',vs,Dr,hvr,hFr,hccr,hRr,helr,hrF,hput⟩:=hg.put (i:=r) (by omega)
      have rA:=hro.at (U:=U2) (M:=(b7,.var xd1.v,TR)::(b5,.var zeroQV.v,TR)::(Do++(F.flatten++(Dp++X)))) sb
      have rB:=hRr.at (U:=U2) (M:=(b7,.var xd1.v,TR)::(b5,.var zeroQV.v,TR)::(Do++(F.flatten++(Dp++X)))) (((List.sublist_flatten_of_mem (List.mem_of_getElem? hFr)).trans (List.sublist_append_left ..)).trans sb)
      obtain ⟨v2,hv2⟩:=rB.at hcn
      obtain ⟨x2,rfl,hx2⟩:=helr _ _ hv2
      have sx:=sg1 r c hrm hcn
      try refine Qb ?_
      refine Qt [0,1,2,3,4,5,6,7,8,9] sym (by kernel_rfl) ?_
      try refine Qb ?_
      refine sl_y (Qf sym rfl rfl rfl rfl rfl rfl (rA.lt hvr) (rA.get _ _ hvr).1) rfl rfl rfl rfl ?_; refine sl_y (Qk sym rfl rfl rfl rfl rA hvr rfl) rfl rfl rfl rfl ?_
      try refine Qb ?_
      refine sl_y (Qf sym rfl rfl rfl rfl rfl rfl (rB.lt hv2) (rB.get _ _ hv2).1) rfl rfl rfl rfl ?_; refine sl_y (Qp sym rfl rfl rfl rfl rfl rB hv2) rfl rfl rfl rfl ?_
      refine Qd rfl rfl rfl rfl rfl rfl (fun _=>(YM (hd1.rep.up uc sb) (hd1.le sd1 (by omega)) (hx2.rep.up uc sb) (hx2.le sx (by omega))).settle) ?_
      rintro v Uh6 D hU ⟨rfl,_,_,⟨xh6,rfl,h6,-⟩,-,-,hs⟩
      replace h6:=h6.sett hs
      clear hs
      repeat (first|refine Qc ?_|refine Qa fun _=>?_|refine w_al fun _=>?_)
      have rA2:=hro.at (U:=Uh6) (M:=(b7,.var xh6.v,TR)::(b5,.var zeroQV.v,TR)::(Do++(F.flatten++(Dp++X)))) sb
      have rB2:=hRr.at (U:=Uh6) (M:=(b7,.var xh6.v,TR)::(b5,.var zeroQV.v,TR)::(Do++(F.flatten++(Dp++X)))) (((List.sublist_flatten_of_mem (List.mem_of_getElem? hFr)).trans (List.sublist_append_left ..)).trans sb)
      have h7:xh6.nrm Uh6 [] (d1*g1 r c):=h6
      have sd7:Szq (d1*g1 r c) (1+(r+1)*La.gro k w0):=(sd1.mul sx).mono (by rw [Nat.add_mul,Nat.one_mul]; omega)
      refine Qx [12] [0,1,2,3,4,5,6,7,8,9,10,11,12] sym (by kernel_rfl) ?_
      try refine Qb ?_
      refine sl_y (Qf sym rfl rfl rfl rfl rfl rfl (rA2.lt hvr) (rA2.get _ _ hvr).1) rfl rfl rfl rfl ?_; refine sl_y (Qk sym rfl rfl rfl rfl rA2 hvr rfl) rfl rfl rfl rfl ?_
      try refine Qb ?_
      refine sl_y (Qf sym rfl rfl rfl rfl rfl rfl (rA2.lt hvr) (rA2.get _ _ hvr).1) rfl rfl rfl rfl ?_; refine sl_y (Qk sym rfl rfl rfl rfl rA2 hvr rfl) rfl rfl rfl rfl ?_
      try refine Qb ?_
      refine sl_y (Qf sym rfl rfl rfl rfl rfl rfl (rB2.lt hv2) (rB2.get _ _ hv2).1) rfl rfl rfl rfl ?_; refine sl_y (Qp sym rfl rfl rfl rfl rfl rB2 hv2) rfl rfl rfl rfl ?_
      try refine Qb ?_
      refine JP rfl rfl rfl rfl rfl rfl ((Qex (b:=La.gro k r) (X:=(b7,.var xh6.v,TR)::(b5,.var zeroQV.v,TR)::(Do++(((F.take r).flatten++(F.drop (r+1)).flatten)++(Dp++X)))) hRr (helr.up QF uc) (hx2.up uc sb) h0 (Nat.le_of_lt hcn) (fun j hj=>sg1 r j hrm hj) sx (by omega) hn).perm (QY (B:=(b7,.var xh6.v,TR)::(b5,.var zeroQV.v,TR)::Do) (pickF hFr))) ?_
      rintro v8 U8 M8 hU8 ⟨-,Dr2,vs2,rfl,hRr2,helr2⟩
      refine Qj ?_ (QY (B:=(b7,.var xh6.v,TR)::(b5,.var zeroQV.v,TR)::Do) (putF hrF)).symm
      obtain ⟨P,hPe⟩:∃ P:Nat→Rat,P=fun j=>if c≤j then g1 r j / g1 r c else g1 r j:=⟨_,rfl⟩
      rw [← hPe] at helr2
      have hP:∀ j,P j=(g1 r c)⁻¹*g1 r j:=fun j=>by
       rw [hPe]
       show (if c≤j then g1 r j / g1 r c else g1 r j)=_
       split
       ·rw [Rat.div_def,Rat.mul_comm]
       ·rw [hz0 j (by omega),Rat.mul_zero]
      have sP:∀ j,j < n→Szq (P j) (2*La.gro k r):=fun j hj=>by
       rw [hPe]
       show Szq (if c≤j then g1 r j / g1 r c else g1 r j) _
       split
       ·exact ((sg1 r j hrm hj).div sx).mono (by omega)
       ·exact (sg1 r j hrm hj).mono (by omega)
      have hP0:∀ j,j < c→P j=0:=fun j hj=>by rw [hP,hz0 j hj,Rat.mul_zero]
      clear hPe
      have hg2:Gs rW n U8 svs (F.set r Dr2) (La.gst g1 P c r 0):=hput U8 Dr2 vs2 _ (ULe.trans hU hU8) hRr2 (by rw [La.gst_r]; exact helr2) (fun t ht=>La.gst_ge ht (Nat.not_lt_zero t))
      have hgr2:4*La.gro k r+4≤1000000000:=Nat.le_trans (La.gro_le (k:=k) (r:=r+1) (s:=w0) (hrw1.out hcc hrm)) hgro2
      have sG:∀ j a l,a < m→l < n→Szq (La.gst g1 P c r j a l) (La.gro k (r+1)):=fun j a l ha hl=>by
       show Szq _ (4*La.gro k r+4)
       by_cases e1:a=r
       ·subst e1; rw [La.gst_r]; exact (sP l hl).mono (by omega)
       ·by_cases e2:a < j
        ·rw [La.gst_lt e1 e2]; exact (Qja (fun l hl=>sg1 a l ha hl) sP hcn hl).mono (by omega)
        ·rw [La.gst_ge e1 e2]; exact (sg1 a l ha hl).mono (by omega)
      clear hput hRr2 helr2
      generalize F.set r Dr2=F2 at hg2
      try refine Qb ?_
      refine Ql (fun z E U' M'=>∃ (j:Nat) (F:List MH),j≤m∧Gs rW n U' svs F (La.gst g1 P c r j)∧E=[(93,.int .i64 (j:Int)),(92,.int .i64 (m:Int)),(9,.int .i64 (r:Int)),(8,.int .i64 (c:Int)),(6,.slice pp r cp),(7,.pointer (some ⟨b7,0,none⟩)),(5,.pointer (some ⟨b5,0,none⟩)),(0,.slice pg m cg),(1,.int .i64 (cl:Int))]∧ULe U8 U'∧M'=(b7,.var xh6.v,TR)::(b5,.var zeroQV.v,TR)::(Do++(F.flatten++(Dp++X)))∧z=m - j) (n0:=m)
       (E0:=[(93,.int .i64 ((0:Nat):Int)),(92,.int .i64 (m:Int)),(9,.int .i64 (r:Int)),(8,.int .i64 (c:Int)),(6,.slice pp r cp),(7,.pointer (some ⟨b7,0,none⟩)),(5,.pointer (some ⟨b5,0,none⟩)),(0,.slice pg m cg),(1,.int .i64 (cl:Int))]) ⟨rfl,rfl,rfl,rfl,rfl,rfl,rfl,rfl,rfl,trivial⟩ ⟨0,F2,by omega,hg2,rfl,uc,rfl,rfl⟩ ?_
      clear hg2
      rintro z E U9 M' ⟨j,F,hj,hg,rfl,hU9,rfl,rfl⟩
      try refine Qb ?_
      refine Qi rfl (fun h5=>?_) (fun h5=>?_)
      ·have hjm:j < m:=by omega
       try refine Qb ?_
       refine Qw rfl rfl (fun h6'=>?_) (fun h6'=>?_)
       ·have hjr:j≠r:=by omega
        obtain ⟨qj,cj,vsj,Dj,hvj,hFj,hccj,hRj,helj,hjF,hput⟩:=hg.put (i:=j) (by omega)
        obtain ⟨qr,cr,vsr,Dr,hvr,hFr,hccr,hRr,helr,-,-⟩:=hg.put (i:=r) (by omega)
        rw [La.gst_ge hjr (Nat.lt_irrefl j)] at helj
        rw [La.gst_r] at helr
        have rA:=hro.at (U:=U9) (M:=(b7,.var xh6.v,TR)::(b5,.var zeroQV.v,TR)::(Do++(F.flatten++(Dp++X)))) sb
        have rB:=hRj.at (U:=U9) (M:=(b7,.var xh6.v,TR)::(b5,.var zeroQV.v,TR)::(Do++(F.flatten++(Dp++X)))) (((List.sublist_flatten_of_mem (List.mem_of_getElem? hFj)).trans (List.sublist_append_left ..)).trans sb)
        obtain ⟨v3,hv3⟩:=rB.at hcn
        obtain ⟨x3,rfl,hx3⟩:=helj _ _ hv3
        have s3:=sg1 j c hjm hcn
        try refine Qb ?_
        refine sl_y (Qf sym rfl rfl rfl rfl rfl rfl (rA.lt hvj) (rA.get _ _ hvj).1) rfl rfl rfl rfl ?_; refine sl_y (Qk sym rfl rfl rfl rfl rA hvj rfl) rfl rfl rfl rfl ?_
        try refine Qb ?_
        refine sl_y (Qf sym rfl rfl rfl rfl rfl rfl (rB.lt hv3) (rB.get _ _ hv3).1) rfl rfl rfl rfl ?_; refine sl_y (Qp sym rfl rfl rfl rfl rfl rB hv3) rfl rfl rfl rfl ?_
        refine Qd rfl rfl rfl rfl rfl rfl (fun _=>Yd (hx3.rep.up uc sb) (hx3.le s3 (by omega))) ?_
        rintro v U' D hU ⟨rfl,rfl,rfl⟩
        repeat (first|refine Qc ?_|refine Qa fun _=>?_|refine w_al fun _=>?_)
        by_cases hq2:g1 j c≠0
        ·rw [decide_eq_true hq2]
         try refine Qb ?_
         refine Qx [17] [0,1,2,3,4,5,6,7,8,9,10,11,12,13,14,16,15,17] sym (by kernel_rfl) ?_
         try refine Qb ?_
         refine sl_y (Qf sym rfl rfl rfl rfl rfl rfl (rA.lt hvj) (rA.get _ _ hvj).1) rfl rfl rfl rfl ?_; refine sl_y (Qk sym rfl rfl rfl rfl rA hvj rfl) rfl rfl rfl rfl ?_
         try refine Qb ?_
         refine sl_y (Qf sym rfl rfl rfl rfl rfl rfl (rA.lt hvr) (rA.get _ _ hvr).1) rfl rfl rfl rfl ?_; refine sl_y (Qk sym rfl rfl rfl rfl rA hvr rfl) rfl rfl rfl rfl ?_
         try refine Qb ?_
         refine sl_y (Qf sym rfl rfl rfl rfl rfl rfl (rA.lt hvj) (rA.get _ _ hvj).1) rfl rfl rfl rfl ?_; refine sl_y (Qk sym rfl rfl rfl rfl rA hvj rfl) rfl rfl rfl rfl ?_
         try refine Qb ?_
         refine sl_y (Qf sym rfl rfl rfl rfl rfl rfl (rB.lt hv3) (rB.get _ _ hv3).1) rfl rfl rfl rfl ?_; refine sl_y (Qp sym rfl rfl rfl rfl rfl rB hv3) rfl rfl rfl rfl ?_
         try refine Qb ?_
         refine Qd rfl rfl rfl rfl rfl rfl (fun _=>(yJ (hx3.rep.up uc sb) (hx3.le s3 (by omega))).settle) ?_
         rintro v Uh9 D hU ⟨rfl,_,_,⟨xh9,rfl,h9,-⟩,-,-,hs⟩
         replace h9:=h9.sett hs
         clear hs
         repeat (first|refine Qc ?_|refine Qa fun _=>?_|refine w_al fun _=>?_)
         have hrr:=hRr.at (U:=Uh9) (M:=(b7,.var xh6.v,TR)::(b5,.var zeroQV.v,TR)::(Do++(((F.take j).flatten++(F.drop (j+1)).flatten)++(Dp++X)))) (((QfN hFr (Ne.symm hjr)).trans (List.sublist_append_left ..)).trans sb)
         refine JP rfl rfl rfl rfl rfl rfl ((Qcy (b:=2*La.gro k r) (X:=(b7,.var xh6.v,TR)::(b5,.var zeroQV.v,TR)::(Do++(((F.take j).flatten++(F.drop (j+1)).flatten)++(Dp++X)))) hRj (helj.up QF uc) (vb := .slice qr n cr) (g:=P) ⟨qr,cr,vsr,rfl,hccr,hrr,helr.up QF uc⟩ h9 (Nat.le_of_lt hcn) (fun l hl=>(sg1 j l hjm hl).mono (by omega)) sP (s3.neg.mono (by omega)) (by omega) hn).perm (QY (B:=(b7,.var xh6.v,TR)::(b5,.var zeroQV.v,TR)::Do) (pickF hFj))) ?_
         rintro v10 U10 M10 hU10 ⟨-,Dj2,vs2,rfl,hRj2,helj2⟩
         refine Qj ?_ (QY (B:=(b7,.var xh6.v,TR)::(b5,.var zeroQV.v,TR)::Do) (putF hjF)).symm
         try refine Qb ?_
         exact Qg (E':=[(93,.int .i64 ((j:Int)+1)),(92,.int .i64 (m:Int)),(9,.int .i64 (r:Int)),(8,.int .i64 (c:Int)),(6,.slice pp r cp),(7,.pointer (some ⟨b7,0,none⟩)),(5,.pointer (some ⟨b5,0,none⟩)),(0,.slice pg m cg),(1,.int .i64 (cl:Int))]) (m:=m - (j+1)) ⟨rfl,rfl,rfl,rfl,rfl,rfl,rfl,rfl,rfl,trivial⟩ (by omega)
          ⟨j+1,F.set j Dj2,by omega,hput U10 Dj2 vs2 _ uc hRj2 (helj2.congr hRj2.len fun l _=>by
           rw [La.gst_lt hjr (Nat.lt_succ_self j)]
           show _=g1 j l + -(g1 j c)*P l
           split
           ·rfl
           ·rw [hP0 l (by omega),Rat.mul_zero,Rat.add_zero]) (fun t ht=>by rw [La.gst_next hjr,La.setr_ne _ _ ht]),rfl,uc,rfl,rfl⟩
        ·rw [decide_eq_false hq2]
         have hq20:g1 j c=0:=Classical.not_not.1 hq2
         try refine Qb ?_
         exact Qg (E':=[(93,.int .i64 ((j:Int)+1)),(92,.int .i64 (m:Int)),(9,.int .i64 (r:Int)),(8,.int .i64 (c:Int)),(6,.slice pp r cp),(7,.pointer (some ⟨b7,0,none⟩)),(5,.pointer (some ⟨b5,0,none⟩)),(0,.slice pg m cg),(1,.int .i64 (cl:Int))]) (m:=m - (j+1)) ⟨rfl,rfl,rfl,rfl,rfl,rfl,rfl,rfl,rfl,trivial⟩ (by omega)
          ⟨j+1,F,by omega,hg.congr (n:=m) (by omega) (fun _ _ _ _ h=>h.len) (fun a l _ _=>by
           by_cases e:a=j
           ·subst e
            rw [La.gst_ge hjr (Nat.lt_irrefl a),La.gst_lt hjr (Nat.lt_succ_self a)]
            show _=g1 a l + -(g1 a c)*P l
            rw [hq20,Rat.neg_zero,Rat.zero_mul,Rat.add_zero]
           ·rw [La.gst_next hjr,La.setr_ne _ _ e]),rfl,uc,rfl,rfl⟩
       ·have hjr:j=r:=by omega
        subst hjr
        try refine Qb ?_
        exact Qg (E':=[(93,.int .i64 ((j:Int)+1)),(92,.int .i64 (m:Int)),(9,.int .i64 (j:Int)),(8,.int .i64 (c:Int)),(6,.slice pp j cp),(7,.pointer (some ⟨b7,0,none⟩)),(5,.pointer (some ⟨b5,0,none⟩)),(0,.slice pg m cg),(1,.int .i64 (cl:Int))]) (m:=m - (j+1)) ⟨rfl,rfl,rfl,rfl,rfl,rfl,rfl,rfl,rfl,trivial⟩ (by omega)
         ⟨j+1,F,by omega,by rw [La.gst_next_r]; exact hg,rfl,uc,rfl,rfl⟩
      ·have e:j=m:=by omega
       subst e
       try refine Qb ?_
       refine Ye (X:=(b7,.var xh6.v,TR)::(b5,.var zeroQV.v,TR)::(Do++(F.flatten++X))) hrp pm (fun b10 p10 c10 D10 hr10=>?_)
       refine Qj (M':=(b7,.var xh6.v,TR)::(b5,.var zeroQV.v,TR)::(Do++(F.flatten++(D10++X)))) ?_ pm
       try refine Qb ?_
       exact Qg (E':=[(8,.int .i64 ((c:Int)+1)),(6,.slice p10 (r+1) c10),(7,.pointer (some ⟨b7,0,none⟩)),(5,.pointer (some ⟨b5,0,none⟩)),(0,.slice pg j cg),(1,.int .i64 (cl:Int))]) (m:=cl - (c+1)) ⟨rfl,rfl,rfl,rfl,rfl,rfl,trivial⟩ (by omega)
        ⟨c+1,r+1,La.gst g1 P c r j,fun t=>if t < r then p t else c,svs,Do,F,p10,c10,_,D10,xh6,d1*g1 r c,by omega,by omega,hro,hg,hr10,
         JV hrp.len.1 ((ep.up Qit uc).congr hrp.len.1 (fun t ht=>by simp only [if_pos ht])) (by simp only [if_neg (Nat.lt_irrefl r)]; rfl),h7.up uc sb,
         hE.stepP (P:=P) hri hi hcn hq (fun l _=>by rw [hP,hgr,hgr]) (fun l _=>by rw [La.gst_r]) (fun t ht hne l _=>by rw [La.gst_lt hne ht,hg1]) (fun t ht=>if_pos ht) (if_neg (Nat.lt_irrefl r)),
         (fun e=>by subst e; exact (hrop rfl).step hrm h0 (fun l _=>hP l)),fun a l ha hl=>sG _ a l ha hl,sd7,rfl,uc,rfl,rfl⟩
    ·rw [decide_eq_false hq]
     have hq0:g i c=0:=Classical.not_not.1 hq
     try refine Qb ?_
     exact Qg (E':=[(10,.int .i64 ((i:Int)+1)),(9,.int .i64 (r:Int)),(8,.int .i64 (c:Int)),(6,.slice pp r cp),(7,.pointer (some ⟨b7,0,none⟩)),(5,.pointer (some ⟨b5,0,none⟩)),(0,.slice pg m cg),(1,.int .i64 (cl:Int))]) (m:=m - (i+1)) ⟨rfl,rfl,rfl,rfl,rfl,rfl,rfl,rfl,trivial⟩ (by omega)
      ⟨i+1,by omega,by omega,(fun u h1 h2=>by
       rcases Nat.lt_or_eq_of_le (Nat.le_of_lt_succ h2) with h | h
       ·exact hz u h1 h
       ·rw [h]; exact hq0),rfl,rfl,rfl,rfl⟩
   ·try refine Qb ?_
    refine JQ rfl (fun _=>?_) (fun h=>absurd h (by omega))
    try refine Qb ?_
    exact Qg (E':=[(8,.int .i64 ((c:Int)+1)),(6,.slice pp r cp),(7,.pointer (some ⟨b7,0,none⟩)),(5,.pointer (some ⟨b5,0,none⟩)),(0,.slice pg m cg),(1,.int .i64 (cl:Int))]) (m:=cl - (c+1)) ⟨rfl,rfl,rfl,rfl,rfl,rfl,trivial⟩ (by omega)
     ⟨c+1,r,g,p,svs,Do,F,pp,cp,pvs,Dp,xd,d,by omega,hr,hro,hg,hrp,ep,hd,hE.pass (fun s hs=>hz (r+s) (by omega) (by omega)),hrop,sg,sd,rfl,uc,rfl,rfl⟩
  ·try refine Qb ?_
   refine Qt [0,1,2,3] sym (by kernel_rfl) ?_
   repeat (first|refine Qc ?_|refine Qa fun _=>?_|refine w_al fun _=>?_)
   exact Jv sym rfl (.cons (.tmp rfl) (.cons (.cell 1 rfl rfl rfl) .nil)) uc sb (.inl rfl) ⟨hU1,hfin (.inr (by omega))⟩
 ·try refine Qb ?_
  refine Qt [0,1,2,3] sym (by kernel_rfl) ?_
  repeat (first|refine Qc ?_|refine Qa fun _=>?_|refine w_al fun _=>?_)
  exact Jv sym rfl (.cons (.tmp rfl) (.cons (.cell 1 rfl rfl rfl) .nil)) uc sb (.inl rfl) ⟨hU1,hfin (.inl (by omega))⟩
theorem Qcw {m n cl k:Nat} {X D:MH} {vg:Value} {A0:Nat→Nat→Rat} (hgrid:Go rW m n U D vg A0) (hs:∀ i j,i < m→j < n→Szq (A0 i j) k) (hcl:cl≤n) (hk1:1≤k) (hgro:1+m*La.gro k m≤1000000000) (hgro2:La.gro k m≤1000000000) (hn:n≤1000000) (hm:m≤1000000) :
  Cx Tryz.prog 101 [vg,.int .i64 (cl:Int)] G U (D++X) fun v U' M'=>ULe U U'∧∃ (r:Nat) (R:Nat→Nat→Rat) (p:Nat→Nat) (vp:Value) (xd:QV) (d:Rat) (D' Dp:MH),v = .tuple #[vp,xd.v]∧M'=D'++(Dp++X)∧Go rW m n U' D' vg R∧Lo Vi TInt 1 r U' Dp vp p∧xd.nrm U' [] d ∧
   La.Red m n cl r A0 R p d∧(∀ i j,i < m→j < n→Szq (R i j) (La.gro k m))∧Szq d (1+m*La.gro k m) :=
 (Qcf hgrid hs hcl hk1 (.inl (Nat.le_refl m)) hgro hgro2 hn hm).mono fun _ _ _ _ ⟨h1,r,R,p,vp,xd,d,D',Dp,h2,h3,h4,h5,h6,h7,h8,h9,h10⟩=>⟨h1,r,R,p,vp,xd,d,D',Dp,h2,h3,h4,h5,h6,h7,fun i j hi hj=>(h9 i j hi hj).mono (La.gro_le h8),h10⟩
end Go.Proofs.YthnnlgjlhnmhnaaGreat
