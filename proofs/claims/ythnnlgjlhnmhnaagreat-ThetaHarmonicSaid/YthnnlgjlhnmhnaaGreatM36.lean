/- Texts of this seat's own, merged: each begins with its own remark. -/
import Derived.Test.YthnnlgjlhnmhnaaGreatB97
import Derived.Test.YthnnlgjlhnmhnaaGreatM23
import Derived.Test.YthnnlgjlhnmhnaaGreatM34
/- Walks of matrix: grids of zeros, unit grids, grids side by side. -/
namespace Go.Proofs.YthnnlgjlhnmhnaaGreat
open Go.Hp
variable {G:World} {U U':UH} {M M':MH}
theorem QeT {r c:Nat} (hr:r≤100000) (hc:c≤100000) :
  Ct Tryz.prog 129 [.int .i64 (r:Int),.int .i64 (c:Int)] G U M fun v U' D=>Go rO r c U' D v (fun _ _=>(0:Rat))∧ULe U U':=by
 refine Qh Tryz.func129 rfl rfl rfl rfl ?_
 repeat (first|refine Qc ?_|refine Qa fun _=>?_|refine w_al fun _=>?_)
 refine QQ (m:=r) (n:=r) sym rfl rfl rfl rfl rfl rfl rfl rfl rfl (Nat.le_refl r) (by omega) (by omega) rfl rfl rfl rfl (fun b2=>?_)
 have hrow:=Jk (e:=TRs) (s:=1) (b:=b2) (n:=r) (z := .slice none 0 0) rfl (by omega)
 try refine Qb ?_
 refine Ql (fun z E U' M'=>∃ (i:Nat) (svs:List Value) (D:MH) (F:List MH),i≤r∧RowO TRs 1 D (some ⟨b2,0,none⟩) r r svs∧Gs rO c U' (svs.take i) F (fun _ _=>(0:Rat))∧E=[(11,.int .i64 (i:Int)),(5,.slice (some ⟨b2,0,none⟩) r r),(10,.int .i64 (r:Int)),(1,.int .i64 (c:Int))]∧ULe U U' ∧
   M'=D++(F.flatten++M)∧z=r - i) (n0:=r)
  (E0:=[(11,.int .i64 ((0:Nat):Int)),(5,.slice (some ⟨b2,0,none⟩) r r),(10,.int .i64 (r:Int)),(1,.int .i64 (c:Int))]) ⟨rfl,rfl,rfl,rfl,trivial⟩ ⟨0,_,[(b2,_,_)],[],by omega,hrow,Gs.nil,rfl,uc,rfl,rfl⟩ ?_
 clear hrow
 rintro z E U1 M' ⟨i,svs,D,F,hi,hrow,hg,rfl,hU1,rfl,rfl⟩
 try refine Qb ?_
 refine Qi rfl (fun h=>?_) (fun h=>?_)
 ·have hir:i < r:=by omega
  try refine Qb ?_
  refine Qd rfl rfl rfl rfl rfl rfl (fun _=>Qek (n:=c) (by omega)) ?_
  rintro v2 U2 D2 hU2 ⟨⟨p2,c2,us,rfl,hrow2,hel⟩,-⟩
  refine QB (j:=i) hir rfl ?_
  refine QG (X:=D2++(F.flatten++M)) hrow pm hir (fun D3 hr3=>?_)
  have hsl:=hrow.len.1
  have hvi:(svs.set i (.slice p2 c c2))[i]?=some (.slice p2 c c2):=List.getElem?_set_self (by omega)
  have hgi:Gs rO c U2 ((svs.set i (.slice p2 c c2)).take i) F (fun _ _=>(0:Rat)):=by rw [List.take_set_of_le (Nat.le_refl i)]; exact hg.up uc
  generalize svs.set i (.slice p2 c c2)=sv2 at hr3 hvi hgi
  try refine Qb ?_
  refine Jw (M':=D3++((F++[D2]).flatten++M)) pm ?_
  exact Qg (E':=[(11,.int .i64 ((i:Int)+1)),(5,.slice (some ⟨b2,0,none⟩) r r),(10,.int .i64 (r:Int)),(1,.int .i64 (c:Int))]) (m:=r - (i+1)) ⟨rfl,rfl,rfl,rfl,trivial⟩ (by omega)
   ⟨i+1,sv2,D3,F++[D2],by omega,hr3,by
    rw [List.take_add_one,hvi]
    exact hgi.snoc (n:=i) (by rw [List.length_take,hr3.len.1]; omega) hrow2.len.2.1 hrow2 hel,rfl,uc,rfl,rfl⟩
 ·have e:i=r:=by omega
  subst e
  try refine Qb ?_
  rw [List.take_of_length_le (by rw [hrow.len.1]; exact Nat.le_refl _)] at hg
  exact Qe (D++F.flatten) sym rfl (.cons (.tmp rfl) .nil) uc sb (.inl rfl) ⟨⟨D,F,_,_,svs,rfl,rfl,hrow,hg⟩,uc⟩
theorem Qgf {n:Nat} (hn:n≤100000) :
  Ct Tryz.prog 100 [.int .i64 (n:Int)] G U M fun v U' D=>Go rO n n U' D v La.idm∧ULe U U':=by
 refine Qh Tryz.func100 rfl rfl rfl rfl ?_
 repeat (first|refine Qc ?_|refine Qa fun _=>?_|refine w_al fun _=>?_)
 refine Qd rfl rfl rfl rfl rfl rfl (fun _=>QeT hn hn) ?_
 rintro v1 U1 D1 hU1 ⟨⟨Do,F,p,cc,svs,rfl,rfl,hro,hg⟩,-⟩
 have hsl:=hro.len.1
 rw [List.append_assoc]
 try refine Qb ?_
 refine Ql (fun z E U' M'=>∃ (i:Nat) (F:List MH),i≤n∧Gs rO n U' svs F (fun a j=>if a < i then La.idm a j else 0)∧E=[(10,.int .i64 (i:Int)),(3,.slice p n cc),(9,.int .i64 (n:Int))]∧ULe U1 U'∧M'=Do++(F.flatten++M)∧z=n - i) (n0:=n)
  (E0:=[(10,.int .i64 ((0:Nat):Int)),(3,.slice p n cc),(9,.int .i64 (n:Int))]) ⟨rfl,rfl,rfl,trivial⟩ ⟨0,F,by omega,by simpa using hg,rfl,uc,rfl,rfl⟩ ?_
 clear hg
 rintro z E U2 M' ⟨i,F,hi,hg,rfl,hU2,rfl,rfl⟩
 try refine Qb ?_
 refine Qi rfl (fun h=>?_) (fun h=>?_)
 ·have hin:i < n:=by omega
  obtain ⟨q,c',vs,Di,hvi,hFi,hcc,hR,hel,hiF,hput⟩:=hg.put (i:=i) (by omega)
  have rA:=hro.at (U:=U2) (M:=Do++(F.flatten++M)) sb
  try refine Qb ?_
  refine Qx [6,7] [0,1,2,3,4,5,6,7] sym (by kernel_rfl) ?_
  try refine Qb ?_
  refine sl_y (Qf sym rfl rfl rfl rfl rfl rfl (rA.lt hvi) (rA.get _ _ hvi).1) rfl rfl rfl rfl ?_; refine sl_y (Qk sym rfl rfl rfl rfl rA hvi rfl) rfl rfl rfl rfl ?_
  try refine Qb ?_
  refine Qd rfl rfl rfl rfl rfl rfl (fun _=>(VU (z:=1) (by decide) (by decide)).settle) ?_
  rintro v Uh1 D hU ⟨rfl,_,_,⟨xh1,rfl,h1,-⟩,-,-,hs⟩
  replace h1:=h1.sett hs
  clear hs
  repeat (first|refine Qc ?_|refine Qa fun _=>?_|refine w_al fun _=>?_)
  refine QB (j:=i) hin (hR.some (by omega)) ?_
  refine QG (v:=xh1.v) (X:=Do++(((F.take i).flatten++(F.drop (i+1)).flatten)++M)) hR (QY (B:=Do) (pickF hFi)) hin (fun D2 hr2=>?_)
  refine Qj ?_ (QY (B:=Do) (putF hiF)).symm
  try refine Qb ?_
  exact Qg (E':=[(10,.int .i64 ((i:Int)+1)),(3,.slice p n cc),(9,.int .i64 (n:Int))]) (m:=n - (i+1)) ⟨rfl,rfl,rfl,trivial⟩ (by omega)
   ⟨i+1,F.set i D2,by omega,hput Uh1 D2 _ _ uc hr2 (YH (fun k x hk hne=>by
    have:=(hel.up (U':=Uh1) QF uc) k x hk
    simp only [if_neg (Nat.lt_irrefl i)] at this
    simp only [if_pos (Nat.lt_succ_self i)]
    unfold La.idm
    rw [if_neg (Ne.symm hne)]; exact this) (by
    simp only [if_pos (Nat.lt_succ_self i)]
    unfold La.idm
    rw [if_pos rfl]; exact ⟨xh1,rfl,h1⟩)) (fun k hk=>by
    funext j
    by_cases e:k < i
    ·rw [if_pos e,if_pos (by omega)]
    ·rw [if_neg e,if_neg (by omega)]),rfl,uc,rfl,rfl⟩
 ·have e:i=n:=by omega
  subst e
  try refine Qb ?_
  exact Qe (Do++F.flatten) sym rfl (.cons (.tmp rfl) .nil) uc sb (.inl rfl) ⟨⟨Do,F,_,_,svs,rfl,rfl,hro,hg.congr (n:=i) hsl (fun _ _ _ _ h=>h.len.1) (fun a j ha _=>if_pos ha)⟩,uc⟩
def side (n:Nat) (A B:Nat→Nat→Rat):Nat→Nat→Rat:=fun i j=>if j < n then A i j else B i (j - n)
theorem QcM {m n k:Nat} {va vb:Value} {A B:Nat→Nat→Rat} (ha:Lg m n U M va A) (hb:Lg m k U M vb B) (hm:m≤100000) (hn:n≤100000) (hk:k≤100000) :
  Ct Tryz.prog 99 [va,vb] G U M fun v U' D=>Go rO m (n+k) U' D v (side n A B)∧ULe U U':=by
 obtain ⟨p1,c1,as1,rfl,-,ra,ea⟩:=ha
 obtain ⟨p2,c2,as2,rfl,-,rb,eb⟩:=hb
 refine Qh Tryz.func99 rfl rfl rfl rfl ?_
 repeat (first|refine Qc ?_|refine Qa fun _=>?_|refine w_al fun _=>?_)
 refine QQ (m:=m) (n:=m) sym rfl rfl rfl rfl rfl rfl rfl rfl rfl (Nat.le_refl m) (by omega) (by omega) rfl rfl rfl rfl (fun b2=>?_)
 have hrow:=Jk (e:=TRs) (s:=1) (b:=b2) (n:=m) (z := .slice none 0 0) rfl (by omega)
 try refine Qb ?_
 refine Ql (fun z E U' M'=>∃ (i:Nat) (svs:List Value) (D:MH) (F:List MH),i≤m∧RowO TRs 1 D (some ⟨b2,0,none⟩) m m svs∧Gs rO (n+k) U' (svs.take i) F (side n A B)∧E=[(12,.int .i64 (i:Int)),(5,.slice (some ⟨b2,0,none⟩) m m),(11,.int .i64 (m:Int)),(0,.slice p1 m c1),(1,.slice p2 m c2)]∧U=U' ∧
   M'=D++(F.flatten++M)∧z=m - i) (n0:=m)
  (E0:=[(12,.int .i64 ((0:Nat):Int)),(5,.slice (some ⟨b2,0,none⟩) m m),(11,.int .i64 (m:Int)),(0,.slice p1 m c1),(1,.slice p2 m c2)]) ⟨rfl,rfl,rfl,rfl,rfl,trivial⟩ ⟨0,_,[(b2,_,_)],[],by omega,hrow,Gs.nil,rfl,rfl,rfl,rfl⟩ ?_
 clear hrow
 rintro z E U1 M' ⟨i,svs,D,F,hi,hrow,hg,rfl,rfl,rfl,rfl⟩
 try refine Qb ?_
 refine Qi rfl (fun h=>?_) (fun h=>?_)
 ·have him:i < m:=by omega
  obtain ⟨v1,hv1⟩:=ra.at him
  obtain ⟨q1,d1,us1,rfl,hd1,r1,el1⟩:=ea _ _ hv1
  obtain ⟨v2,hv2⟩:=rb.at him
  obtain ⟨q2,d2,us2,rfl,hd2,r2,el2⟩:=eb _ _ hv2
  try refine Qb ?_
  refine Qx [12,13,14] [0,1,3,4,5,6,8,9,10,11,2,7,12,13,14] sym (by kernel_rfl) ?_
  try refine Qb ?_
  refine sl_y (Qf sym rfl rfl rfl rfl rfl rfl ((ra.up uc sb).lt hv1) ((ra.up uc sb).get _ _ hv1).1) rfl rfl rfl rfl ?_; refine sl_y (Qk sym rfl rfl rfl rfl (ra.up uc sb) hv1 rfl) rfl rfl rfl rfl ?_
  try refine Qb ?_
  refine sl_y (Qf sym rfl rfl rfl rfl rfl rfl ((rb.up uc sb).lt hv2) ((rb.up uc sb).get _ _ hv2).1) rfl rfl rfl rfl ?_; refine sl_y (Qk sym rfl rfl rfl rfl (rb.up uc sb) hv2 rfl) rfl rfl rfl rfl ?_
  refine Qin (fun bo=>?_)
  refine Qgx (r1.up (M':=(bo,.arr [],TR)::(D++(F.flatten++M))) uc sb) (El.ones el1 fun _ _ h=>QfA h) (fun p4 c4 D4 h4=>?_)
  refine Qik h4 (List.Perm.refl _) (r2.up (M':=D4++(bo,.arr [],TR)::(D++(F.flatten++M))) uc sb) (El.ones el2 fun _ _ h=>QfA h) (fun p5 c5 D5 h5=>?_)
  refine QB (j:=i) him rfl ?_
  refine QG (X:=(bo,.arr [],TR)::(D5++(F.flatten++M))) hrow pm him (fun D3 hr3=>?_)
  refine Qj (M':=(bo,.arr [],TR)::(D3++((F++[D5]).flatten++M))) ?_ pm
  refine Qdm (M':=D3++((F++[D5]).flatten++M)) (List.sublist_cons_self ..) ?_
  have hsl:=hrow.len.1
  have hvi:(svs.set i (.slice p5 (n+k) c5))[i]?=some (.slice p5 (n+k) c5):=List.getElem?_set_self (by omega)
  have hgi:Gs rO (n+k) U ((svs.set i (.slice p5 (n+k) c5)).take i) F (side n A B):=by rw [List.take_set_of_le (Nat.le_refl i)]; exact hg
  generalize svs.set i (.slice p5 (n+k) c5)=sv2 at hr3 hvi hgi
  try refine Qb ?_
  exact Qg (E':=[(12,.int .i64 ((i:Int)+1)),(5,.slice (some ⟨b2,0,none⟩) m m),(11,.int .i64 (m:Int)),(0,.slice p1 m c1),(1,.slice p2 m c2)]) (m:=m - (i+1)) ⟨rfl,rfl,rfl,rfl,rfl,trivial⟩ (by omega)
   ⟨i+1,sv2,D3,F++[D5],by omega,hr3,by
    rw [List.take_add_one,hvi]
    exact hgi.snoc (n:=i) (by rw [List.length_take,hr3.len.1]; omega) h5.len.2.1 h5 (Qgr r1.len (el1.congr r1.len fun t ht=>by unfold side; rw [if_pos ht]) (fun t x ht=>by
     unfold side
     rw [if_neg (by omega),Nat.add_sub_cancel_left]; exact el2 t x ht)),rfl,rfl,rfl,rfl⟩
 ·have e:i=m:=by omega
  subst e
  try refine Qb ?_
  rw [List.take_of_length_le (by rw [hrow.len.1]; exact Nat.le_refl _)] at hg
  exact Qe (D++F.flatten) sym rfl (.cons (.tmp rfl) .nil) uc sb (.inl rfl) ⟨⟨D,F,_,_,svs,rfl,rfl,hrow,hg⟩,uc⟩
end Go.Proofs.YthnnlgjlhnmhnaaGreat

/- Walks of matrix: kernels. -/
namespace Go.Proofs.YthnnlgjlhnmhnaaGreat
open Go.Hp
variable {G:World} {U U':UH} {M M':MH}
theorem Qfm (n:Nat) (T:Nat→Nat→Rat):side n T La.idm=La.aug n T:=rfl
theorem Qir {m n b:Nat} {T:Nat→Nat→Rat} (hb1:1≤b) (hs:∀ i j,i < m→j < n→Szq (T i j) b):∀ i j,i < m→j < n+m→Szq (La.aug n T i j) b:=fun i j hi hj=>by
 unfold La.aug
 split
 ·rename_i h; exact hs i j hi h
 ·unfold La.idm
  split
  ·exact QbR.mono hb1
  ·exact Yn.mono hb1
theorem QeJ {m n b:Nat} (hm1:m≤1000) (hn1:n≤1000) (_:b≤1000000000):m*n≤1000*1000∧m*(n+m)≤1000*2000:=⟨Nat.mul_le_mul hm1 hn1,Nat.mul_le_mul hm1 (by omega)⟩
end Go.Proofs.YthnnlgjlhnmhnaaGreat

/- Walks of matrix: Kernel and Inverse. -/
namespace Go.Proofs.YthnnlgjlhnmhnaaGreat
open Go.Hp
variable {G:World} {U U':UH} {M M':MH}
theorem Qbv {n b:Nat} {vm:Value} {A:Nat→Nat→Rat} (hm:Vm (Wq b) n n U vm A) (hb1:1≤b) (hg1:1+n*La.gro b n≤1000000000) (hgW:La.gro b n≤1000000000) (hn1:n≤1000) :
  Ct Tryz.prog 59 [vm] G U M fun v U' D=>∃ (r:Nat) (R:Nat→Nat→Rat) (p:Nat→Nat) (vX:Value) (e:Int),v = .tuple #[vX,.int .i64 e]∧EchOf n n r A R p∧(r < n→e=11∧vX = .agg #[.int .i64 0,.int .i64 0,.slice none 0 0]∧D=[]) ∧
   (r=n→e=0∧∃ X:Nat→Nat→Rat,Vmo n n U' D vX X∧(∀ i j,i < n→j < n→La.mm n X A i j=La.idm i j)∧∀ i j,i < n→j < n→Szq (X i j) (La.gro b n))∧ULe U U':=by
 have hb:b≤1000000000:=Nat.le_trans (La.gro_le (k:=b) (Nat.zero_le n)) hgW
 obtain ⟨hmn,hmn2⟩:=QeJ (m:=n) hn1 hn1 hb
 have sT:∀ i j,i < n→j < n→Szq (A i j) b:=fun i j hi hj=>hm.sz hb1 hi hj
 have hm2:=hm
 obtain ⟨_,rfl,pa,cm,ms,rfl,-⟩:=hm
 refine Qh Tryz.func59 rfl rfl rfl rfl ?_
 repeat (first|refine Qc ?_|refine Qa fun _=>?_|refine w_al fun _=>?_)
 rename_i b1 b2
 refine Qd rfl rfl rfl rfl rfl rfl (fun _=>vG (r:=(n:Int)) (c:=(n:Int)) (n:=n*n) (p:=pa) (cc:=cm) (by omega)) ?_
 rintro v U' D hU ⟨rfl,rfl,rfl⟩
 repeat (first|refine Qc ?_|refine Qa fun _=>?_|refine w_al fun _=>?_)
 rw [decide_eq_true ⟨QfT (by omega) (by omega),rfl⟩]
 repeat (first|refine Qc ?_|refine Qa fun _=>?_|refine w_al fun _=>?_)
 refine Qt [0,2,3,1,4,5,6] sym (by kernel_rfl) ?_
 try refine Qb ?_
 refine Qd rfl rfl rfl rfl rfl rfl (fun _=>QbM (Qgu VM _ _ _ _ uc hm2) (by omega) (by omega) (by omega) (by omega)) ?_
 rintro v1 U1 D1 hU1 ⟨hgl,-⟩
 try refine Qb ?_
 refine Qd rfl rfl rfl rfl rfl rfl (fun _=>Qgf (n:=n) (by omega)) ?_
 rintro v2 U2 D2 hU2 ⟨hgu,-⟩
 try refine Qb ?_
 have hga:Lg n n U2 (D2++(D1++((b2,.var (.agg #[.int .i64 0,.int .i64 0,.slice none 0 0]),TM)::(b1,.var (.agg #[.int .i64 (n:Int),.int .i64 (n:Int),.slice pa (n*n) cm]),TM)::M))) v1 A:=(hgl.w.lg (M:=D2++(D1++((b2,.var (.agg #[.int .i64 0,.int .i64 0,.slice none 0 0]),TM)::(b1,.var (.agg #[.int .i64 (n:Int),.int .i64 (n:Int),.slice pa (n*n) cm]),TM)::M))) sb).up uc (List.Sublist.refl _)
 have hgb:Lg n n U2 (D2++(D1++((b2,.var (.agg #[.int .i64 0,.int .i64 0,.slice none 0 0]),TM)::(b1,.var (.agg #[.int .i64 (n:Int),.int .i64 (n:Int),.slice pa (n*n) cm]),TM)::M))) v2 La.idm:=hgu.w.lg (List.sublist_append_left ..)
 refine Qd rfl rfl rfl rfl rfl rfl (fun _=>QcM (hga.up uc sb) (hgb.up uc sb) (by omega) (by omega) (by omega)) ?_
 rintro v3 U3 D3 hU3 ⟨hgd,-⟩
 rw [Qfm] at hgd
 refine Qj (M':=(b2,.var (.agg #[.int .i64 0,.int .i64 0,.slice none 0 0]),TM)::(b1,.var (.agg #[.int .i64 (n:Int),.int .i64 (n:Int),.slice pa (n*n) cm]),TM)::(D3++(D2++(D1++M)))) ?_ pm
 refine Qdm (M':=(b2,.var (.agg #[.int .i64 0,.int .i64 0,.slice none 0 0]),TM)::(b1,.var (.agg #[.int .i64 (n:Int),.int .i64 (n:Int),.slice pa (n*n) cm]),TM)::(D3++M)) sbk ?_
 repeat (first|refine Qc ?_|refine Qa fun _=>?_|refine w_al fun _=>?_)
 refine JP rfl rfl rfl rfl rfl rfl ((Qcw (X:=(b2,.var (.agg #[.int .i64 0,.int .i64 0,.slice none 0 0]),TM)::(b1,.var (.agg #[.int .i64 (n:Int),.int .i64 (n:Int),.slice pa (n*n) cm]),TM)::M) (cl:=n) hgd.w (Qir hb1 sT) (Nat.le_add_right n n) hb1 hg1 hgW (by omega) (by omega)).perm pm) ?_
 rintro v4 U4 M4 hU4 ⟨-,r,R,p,vp,xd,d,D',Dp,rfl,rfl,hg4,⟨pp,cp,pvs,rfl,hrp,ep⟩,hd,hred,hsz,hsd⟩
 refine Qj (M':=(b2,.var (.agg #[.int .i64 0,.int .i64 0,.slice none 0 0]),TM)::(b1,.var (.agg #[.int .i64 (n:Int),.int .i64 (n:Int),.slice pa (n*n) cm]),TM)::(D'++(Dp++M))) ?_ pm
 have hrm:=hred.le
 obtain ⟨l1,l2⟩:=La.red_left hred
 obtain ⟨Do,F,pg,cg,svs,rfl,rfl,hro,hgs⟩:=hg4
 have hcg:=hro.len
 have hFl:F.length=n:=by rw [← hgs.1]; exact hcg.1
 repeat (first|refine Qc ?_|refine Qa fun _=>?_|refine w_al fun _=>?_)
 rename_i b6
 have hE:EchOf n n r A R p:=⟨l1,l2,hrm⟩
 refine Qi rfl (fun h=>?_) (fun h=>?_)
 ·have hlt:r < n:=by omega
  repeat (first|refine Qc ?_|refine Qa fun _=>?_|refine w_al fun _=>?_)
  exact Qe [] sym rfl (.cons (.cell 1 rfl rfl rfl) (.cons (.tmp rfl) .nil)) uc sb (.inl rfl) ⟨r,R,p,_,11,rfl,hE,(fun _=>⟨rfl,rfl,rfl⟩),(fun e=>absurd e (by omega)),uc⟩
 ·have heq:r=n:=by omega
  subst heq
  repeat (first|refine Qc ?_|refine Qa fun _=>?_|refine w_al fun _=>?_)
  refine Yu (M:=(b6,.var xd.v,TR)::(b2,.var (.agg #[.int .i64 0,.int .i64 0,.slice none 0 0]),TM)::(b1,.var (.agg #[.int .i64 (r:Int),.int .i64 (r:Int),.slice pa (r*r) cm]),TM)::((Do++F.flatten)++(Dp++M))) (M':=(b6,.var xd.v,TR)::(b2,.var (.agg #[.int .i64 0,.int .i64 0,.slice none 0 0]),TM)::(b1,.var (.agg #[.int .i64 (r:Int),.int .i64 (r:Int),.slice pa (r*r) cm]),TM)::(Do++(F.flatten++(Dp++M)))) pm ?_
  refine Ql (fun z E U' M'=>∃ (i:Nat) (sv2:List Value) (Do:MH),i≤r∧RowO TRs 1 Do pg r cg sv2∧(∀ k v D,k < i→sv2[k]?=some v→F[k]?=some D→∃ q c' vs,v = .slice q r c'∧r≤c'∧RowW TR 4 D q r vs∧El Vq U4 vs (fun j=>R k (r+j)))∧(∀ k,i≤k→sv2[k]?=svs[k]?) ∧
    E=[(33,.int .i64 (i:Int)),(32,.int .i64 (r:Int)),(4,.slice pg r cg),(1,.pointer (some ⟨b1,0,none⟩)),(2,.pointer (some ⟨b2,0,none⟩))]∧U4=U'∧M'=(b6,.var xd.v,TR)::(b2,.var (.agg #[.int .i64 0,.int .i64 0,.slice none 0 0]),TM)::(b1,.var (.agg #[.int .i64 (r:Int),.int .i64 (r:Int),.slice pa (r*r) cm]),TM)::(Do++(F.flatten++(Dp++M)))∧z=r - i) (n0:=r)
   (E0:=[(33,.int .i64 ((0:Nat):Int)),(32,.int .i64 (r:Int)),(4,.slice pg r cg),(1,.pointer (some ⟨b1,0,none⟩)),(2,.pointer (some ⟨b2,0,none⟩))]) ⟨rfl,rfl,rfl,rfl,rfl,trivial⟩ ⟨0,svs,Do,by omega,hro,(fun k v D h=>absurd h (Nat.not_lt_zero k)),(fun _ _=>rfl),rfl,rfl,rfl,rfl⟩ ?_
  clear hro
  rintro z E U5 M' ⟨i,sv2,Do,hi,hro,hN,hO,rfl,rfl,rfl,rfl⟩
  have hsl2:=hro.len.1
  try refine Qb ?_
  refine Qi rfl (fun h5=>?_) (fun h5=>?_)
  ·have hir:i < r:=by omega
   have hv:=List.getElem?_eq_getElem (show i < svs.length by rw [hcg.1]; exact hir)
   have hFi:=List.getElem?_eq_getElem (show i < F.length by omega)
   generalize svs[i]=v5 at hv
   generalize F[i]=Di at hFi
   obtain ⟨q,c',vs,rfl,hcc,hR,hel⟩:=hgs.2 _ _ _ hv hFi
   have hv2:sv2[i]?=some (.slice q (r+r) c'):=by rw [hO i (Nat.le_refl i)]; exact hv
   have rA:=hro.at (U:=U4) (M:=(b6,.var xd.v,TR)::(b2,.var (.agg #[.int .i64 0,.int .i64 0,.slice none 0 0]),TM)::(b1,.var (.agg #[.int .i64 (r:Int),.int .i64 (r:Int),.slice pa (r*r) cm]),TM)::(Do++(F.flatten++(Dp++M)))) sb
   try refine Qb ?_
   refine Qx [8,9,10] [0,1,2,3,4,5,6,7,8,9,10] sym (by kernel_rfl) ?_
   try refine Qb ?_
   refine sl_y (Qf sym rfl rfl rfl rfl rfl rfl (rA.lt hv2) (rA.get _ _ hv2).1) rfl rfl rfl rfl ?_; refine sl_y (Qk sym rfl rfl rfl rfl rA hv2 rfl) rfl rfl rfl rfl ?_
   try refine Qb ?_
   refine Qdx (lo:=r) (n:=r+r) (by omega) hcc ?_
   have hpart:=hR.part (lo:=r) (hi:=r+r) (by omega) (Nat.le_refl _) hcc
   have e1:r+r - r=r:=by omega
   rw [e1] at hpart ⊢
   generalize (if c'=r then q else q.map (·.add (r*4)))=q2 at hpart ⊢
   refine QB (j:=i) hir (hro.some (by omega)) ?_
   refine QG (X:=(b6,.var xd.v,TR)::(b2,.var (.agg #[.int .i64 0,.int .i64 0,.slice none 0 0]),TM)::(b1,.var (.agg #[.int .i64 (r:Int),.int .i64 (r:Int),.slice pa (r*r) cm]),TM)::(F.flatten++(Dp++M))) hro pm hir (fun D2 hr2=>?_)
   refine Qj (M':=(b6,.var xd.v,TR)::(b2,.var (.agg #[.int .i64 0,.int .i64 0,.slice none 0 0]),TM)::(b1,.var (.agg #[.int .i64 (r:Int),.int .i64 (r:Int),.slice pa (r*r) cm]),TM)::(D2++(F.flatten++(Dp++M)))) ?_ pm
   try refine Qb ?_
   refine Qg (E':=[(33,.int .i64 ((i:Int)+1)),(32,.int .i64 (r:Int)),(4,.slice pg r cg),(1,.pointer (some ⟨b1,0,none⟩)),(2,.pointer (some ⟨b2,0,none⟩))]) (m:=r - (i+1)) ⟨rfl,rfl,rfl,rfl,rfl,trivial⟩ (by omega)
    ⟨i+1,_,D2,by omega,hr2,(fun k v D hk hv hD=>?_),(fun k hk=>by rw [List.getElem?_set_ne (by omega)]; exact hO k (by omega)),rfl,rfl,rfl,rfl⟩
   by_cases ek:k=i
   ·subst ek
    rw [List.getElem?_set_self (by omega)] at hv
    cases hv
    rw [hFi] at hD
    cases hD
    refine ⟨q2,c' - r,_,rfl,by omega,hpart,fun t x ht=>?_⟩
    rw [List.getElem?_take] at ht
    split at ht
    ·rw [List.getElem?_drop] at ht
     exact hel _ _ ht
    ·cases ht
   ·rw [List.getElem?_set_ne (Ne.symm ek)] at hv
    exact hN k v D (by omega) hv hD
  ·have e:i=r:=by omega
   subst e
   have hgs2:Gs rW i U4 sv2 F (fun k j=>R k (i+j)):=⟨by rw [hsl2,hFl],fun k v D hv hD=>hN k v D (by rw [← hsl2]; exact (List.getElem?_eq_some_iff.1 hv).1) hv hD⟩
   try refine Qb ?_
   refine Qd rfl rfl rfl rfl rfl rfl (fun _=>Qeu (Gs.lg (M:=(b6,.var xd.v,TR)::(b2,.var (.agg #[.int .i64 0,.int .i64 0,.slice none 0 0]),TM)::(b1,.var (.agg #[.int .i64 (i:Int),.int .i64 (i:Int),.slice pa (i*i) cm]),TM)::(Do++(F.flatten++(Dp++M)))) hro hgs2 sb |>.up uc sb) (by omega) (by omega) (by omega)) ?_
   rintro v6 U6 D6 hU6 ⟨⟨_,rfl,p6,c6,vs6,rfl,h6,e6⟩,-⟩
   refine Qj ?_ (perm3 (D:=D6))
   repeat (first|refine Qc ?_|refine Qa fun _=>?_|refine w_al fun _=>?_)
   refine Qe D6 sym rfl (.cons (.cell 1 rfl rfl rfl) (.cons (.tmp rfl) .nil)) uc sb (.inl rfl) ⟨i,R,p,_,0,rfl,hE,(fun e=>absurd e (by omega)),(fun _=>⟨rfl,fun k j=>R k (i+j),⟨_,rfl,p6,c6,vs6,rfl,h6,e6⟩,fun a j ha hj=>?_,fun a j ha hj=>hsz a (i+j) ha (by omega)⟩),uc⟩
   rw [← l1.full.2 a j ha hj]
   exact (La.sp_aug.1 (hred.span.lt a ha) j hj).symm
end Go.Proofs.YthnnlgjlhnmhnaaGreat
