/- Texts of this seat's own, merged: each begins with its own remark. -/
import Derived.Test.YtahcddpdgpjbnaaB97
import Derived.Test.YtahcddpdgpjbnaaM23
import Derived.Test.YtahcddpdgpjbnaaM34
/- Walks of matrix: grids of zeros, unit grids, grids side by side. -/
namespace Go.Proofs.Ytahcddpdgpjbnaa
open Go.Hp
variable {G:World} {U U':UH} {M M':MH}
theorem jL {r c:Nat} (hr:r≤100000) (hc:c≤100000) :
  Ct Try.prog 29 [.int .i64 (r:Int),.int .i64 (c:Int)] G U M fun v U' D=>Go rO r c U' D v (fun _ _=>(0:Rat))∧ULe U U':=by
 refine Qf Try.func29 rfl rfl rfl rfl ?_
 repeat (first|refine Qc ?_|refine Qb fun _=>?_|refine w_al fun _=>?_)
 refine Jn (m:=r) (n:=r) sym rfl rfl rfl rfl rfl rfl rfl rfl rfl (Nat.le_refl r) (by omega) (by omega) rfl rfl rfl rfl (fun b2=>?_)
 have hrow:=JE (e:=TRs) (s:=1) (b:=b2) (n:=r) (z := .slice none 0 0) rfl (by omega)
 try refine Qa ?_
 refine Qm (fun z E U' M'=>∃ (i:Nat) (svs:List Value) (D:MH) (F:List MH),i≤r∧RowO TRs 1 D (some ⟨b2,0,none⟩) r r svs∧Gs rO c U' (svs.take i) F (fun _ _=>(0:Rat))∧E=[(11,.int .i64 (i:Int)),(5,.slice (some ⟨b2,0,none⟩) r r),(10,.int .i64 (r:Int)),(1,.int .i64 (c:Int))]∧ULe U U' ∧
   M'=D++(F.flatten++M)∧z=r - i) (n0:=r)
  (E0:=[(11,.int .i64 ((0:Nat):Int)),(5,.slice (some ⟨b2,0,none⟩) r r),(10,.int .i64 (r:Int)),(1,.int .i64 (c:Int))]) ⟨rfl,rfl,rfl,rfl,trivial⟩ ⟨0,_,[(b2,_,_)],[],by omega,hrow,Gs.nil,rfl,uc,rfl,rfl⟩ ?_
 clear hrow
 rintro z E U1 M' ⟨i,svs,D,F,hi,hrow,hg,rfl,hU1,rfl,rfl⟩
 try refine Qa ?_
 refine Qk rfl (fun h=>?_) (fun h=>?_)
 ·have hir:i < r:=by omega
  try refine Qa ?_
  refine Qd rfl rfl rfl rfl rfl rfl (fun _=>jN (n:=c) (by omega)) ?_
  rintro v2 U2 D2 hU2 ⟨⟨p2,c2,us,rfl,hrow2,hel⟩,-⟩
  refine QF (j:=i) hir rfl ?_
  refine QZ (X:=D2++(F.flatten++M)) hrow pm hir (fun D3 hr3=>?_)
  have hsl:=hrow.len.1
  have hvi:(svs.set i (.slice p2 c c2))[i]?=some (.slice p2 c c2):=List.getElem?_set_self (by omega)
  have hgi:Gs rO c U2 ((svs.set i (.slice p2 c c2)).take i) F (fun _ _=>(0:Rat)):=by rw [List.take_set_of_le (Nat.le_refl i)]; exact hg.up uc
  generalize svs.set i (.slice p2 c c2)=sv2 at hr3 hvi hgi
  try refine Qa ?_
  refine qa (M':=D3++((F++[D2]).flatten++M)) pm ?_
  exact Qi (E':=[(11,.int .i64 ((i:Int)+1)),(5,.slice (some ⟨b2,0,none⟩) r r),(10,.int .i64 (r:Int)),(1,.int .i64 (c:Int))]) (m:=r - (i+1)) ⟨rfl,rfl,rfl,rfl,trivial⟩ (by omega)
   ⟨i+1,sv2,D3,F++[D2],by omega,hr3,by
    rw [List.take_add_one,hvi]
    exact hgi.snoc (n:=i) (by rw [List.length_take,hr3.len.1]; omega) hrow2.len.2.1 hrow2 hel,rfl,uc,rfl,rfl⟩
 ·have e:i=r:=by omega
  subst e
  try refine Qa ?_
  rw [List.take_of_length_le (by rw [hrow.len.1]; exact Nat.le_refl _)] at hg
  exact Qe (D++F.flatten) sym rfl (.cons (.tmp rfl) .nil) uc sb (.inl rfl) ⟨⟨D,F,_,_,svs,rfl,rfl,hrow,hg⟩,uc⟩
theorem jr {n:Nat} (hn:n≤100000) :
  Ct Try.prog 34 [.int .i64 (n:Int)] G U M fun v U' D=>Go rO n n U' D v La.idm∧ULe U U':=by
 refine Qf Try.func34 rfl rfl rfl rfl ?_
 repeat (first|refine Qc ?_|refine Qb fun _=>?_|refine w_al fun _=>?_)
 refine Qd rfl rfl rfl rfl rfl rfl (fun _=>jL hn hn) ?_
 rintro v1 U1 D1 hU1 ⟨⟨Do,F,p,cc,svs,rfl,rfl,hro,hg⟩,-⟩
 have hsl:=hro.len.1
 rw [List.append_assoc]
 try refine Qa ?_
 refine Qm (fun z E U' M'=>∃ (i:Nat) (F:List MH),i≤n∧Gs rO n U' svs F (fun a j=>if a < i then La.idm a j else 0)∧E=[(10,.int .i64 (i:Int)),(3,.slice p n cc),(9,.int .i64 (n:Int))]∧ULe U1 U'∧M'=Do++(F.flatten++M)∧z=n - i) (n0:=n)
  (E0:=[(10,.int .i64 ((0:Nat):Int)),(3,.slice p n cc),(9,.int .i64 (n:Int))]) ⟨rfl,rfl,rfl,trivial⟩ ⟨0,F,by omega,by simpa using hg,rfl,uc,rfl,rfl⟩ ?_
 clear hg
 rintro z E U2 M' ⟨i,F,hi,hg,rfl,hU2,rfl,rfl⟩
 try refine Qa ?_
 refine Qk rfl (fun h=>?_) (fun h=>?_)
 ·have hin:i < n:=by omega
  obtain ⟨q,c',vs,Di,hvi,hFi,hcc,hR,hel,hiF,hput⟩:=hg.put (i:=i) (by omega)
  have rA:=hro.at (U:=U2) (M:=Do++(F.flatten++M)) sb
  try refine Qa ?_
  refine QH [6,7] [0,1,2,3,4,5,6,7] sym (by kernel_rfl) ?_
  try refine Qa ?_
  refine sl_y (Qj sym rfl rfl rfl rfl rfl rfl (rA.lt hvi) (rA.get _ _ hvi).1) rfl rfl rfl rfl ?_; refine sl_y (Qp sym rfl rfl rfl rfl rA hvi rfl) rfl rfl rfl rfl ?_
  try refine Qa ?_
  refine Qd rfl rfl rfl rfl rfl rfl (fun _=>(jx (z:=1) (by decide) (by decide)).settle) ?_
  rintro v Uh1 D hU ⟨rfl,_,_,⟨xh1,rfl,h1,-⟩,-,-,hs⟩
  replace h1:=h1.sett hs
  clear hs
  repeat (first|refine Qc ?_|refine Qb fun _=>?_|refine w_al fun _=>?_)
  refine QF (j:=i) hin (hR.some (by omega)) ?_
  refine QZ (v:=xh1.v) (X:=Do++(((F.take i).flatten++(F.drop (i+1)).flatten)++M)) hR (JF (B:=Do) (pickF hFi)) hin (fun D2 hr2=>?_)
  refine Qg ?_ (JF (B:=Do) (putF hiF)).symm
  try refine Qa ?_
  exact Qi (E':=[(10,.int .i64 ((i:Int)+1)),(3,.slice p n cc),(9,.int .i64 (n:Int))]) (m:=n - (i+1)) ⟨rfl,rfl,rfl,trivial⟩ (by omega)
   ⟨i+1,F.set i D2,by omega,hput Uh1 D2 _ _ uc hr2 (yg (fun k x hk hne=>by
    have:=(hel.up (U':=Uh1) QA uc) k x hk
    simp only [if_neg (Nat.lt_irrefl i)] at this
    simp only [if_pos (Nat.lt_succ_self i)]
    unfold La.idm
    rw [if_neg (Ne.symm hne)]; exact this) (by
    simp only [if_pos (Nat.lt_succ_self i)]
    unfold La.idm
    rw [if_pos rfl]; exact ⟨xh1,rfl,h1⟩)) (fun k hk=>by
    funext j
    by_cases e:k < i
    ·rw [if_pos e,if_pos (by omega)]
    ·rw [if_neg e,if_neg (by omega)]),rfl,uc,rfl,rfl⟩
 ·have e:i=n:=by omega
  subst e
  try refine Qa ?_
  exact Qe (Do++F.flatten) sym rfl (.cons (.tmp rfl) .nil) uc sb (.inl rfl) ⟨⟨Do,F,_,_,svs,rfl,rfl,hro,hg.congr (n:=i) hsl (fun _ _ _ _ h=>h.len.1) (fun a j ha _=>if_pos ha)⟩,uc⟩
def side (n:Nat) (A B:Nat→Nat→Rat):Nat→Nat→Rat:=fun i j=>if j < n then A i j else B i (j - n)
theorem jp {m n k:Nat} {va vb:Value} {A B:Nat→Nat→Rat} (ha:Lg m n U M va A) (hb:Lg m k U M vb B) (hm:m≤100000) (hn:n≤100000) (hk:k≤100000) :
  Ct Try.prog 33 [va,vb] G U M fun v U' D=>Go rO m (n+k) U' D v (side n A B)∧ULe U U':=by
 obtain ⟨p1,c1,as1,rfl,-,ra,ea⟩:=ha
 obtain ⟨p2,c2,as2,rfl,-,rb,eb⟩:=hb
 refine Qf Try.func33 rfl rfl rfl rfl ?_
 repeat (first|refine Qc ?_|refine Qb fun _=>?_|refine w_al fun _=>?_)
 refine Jn (m:=m) (n:=m) sym rfl rfl rfl rfl rfl rfl rfl rfl rfl (Nat.le_refl m) (by omega) (by omega) rfl rfl rfl rfl (fun b2=>?_)
 have hrow:=JE (e:=TRs) (s:=1) (b:=b2) (n:=m) (z := .slice none 0 0) rfl (by omega)
 try refine Qa ?_
 refine Qm (fun z E U' M'=>∃ (i:Nat) (svs:List Value) (D:MH) (F:List MH),i≤m∧RowO TRs 1 D (some ⟨b2,0,none⟩) m m svs∧Gs rO (n+k) U' (svs.take i) F (side n A B)∧E=[(12,.int .i64 (i:Int)),(5,.slice (some ⟨b2,0,none⟩) m m),(11,.int .i64 (m:Int)),(0,.slice p1 m c1),(1,.slice p2 m c2)]∧U=U' ∧
   M'=D++(F.flatten++M)∧z=m - i) (n0:=m)
  (E0:=[(12,.int .i64 ((0:Nat):Int)),(5,.slice (some ⟨b2,0,none⟩) m m),(11,.int .i64 (m:Int)),(0,.slice p1 m c1),(1,.slice p2 m c2)]) ⟨rfl,rfl,rfl,rfl,rfl,trivial⟩ ⟨0,_,[(b2,_,_)],[],by omega,hrow,Gs.nil,rfl,rfl,rfl,rfl⟩ ?_
 clear hrow
 rintro z E U1 M' ⟨i,svs,D,F,hi,hrow,hg,rfl,rfl,rfl,rfl⟩
 try refine Qa ?_
 refine Qk rfl (fun h=>?_) (fun h=>?_)
 ·have him:i < m:=by omega
  obtain ⟨v1,hv1⟩:=ra.at him
  obtain ⟨q1,d1,us1,rfl,hd1,r1,el1⟩:=ea _ _ hv1
  obtain ⟨v2,hv2⟩:=rb.at him
  obtain ⟨q2,d2,us2,rfl,hd2,r2,el2⟩:=eb _ _ hv2
  try refine Qa ?_
  refine QH [12,13,14] [0,1,3,4,5,6,8,9,10,11,2,7,12,13,14] sym (by kernel_rfl) ?_
  try refine Qa ?_
  refine sl_y (Qj sym rfl rfl rfl rfl rfl rfl ((ra.up uc sb).lt hv1) ((ra.up uc sb).get _ _ hv1).1) rfl rfl rfl rfl ?_; refine sl_y (Qp sym rfl rfl rfl rfl (ra.up uc sb) hv1 rfl) rfl rfl rfl rfl ?_
  try refine Qa ?_
  refine sl_y (Qj sym rfl rfl rfl rfl rfl rfl ((rb.up uc sb).lt hv2) ((rb.up uc sb).get _ _ hv2).1) rfl rfl rfl rfl ?_; refine sl_y (Qp sym rfl rfl rfl rfl (rb.up uc sb) hv2 rfl) rfl rfl rfl rfl ?_
  refine QeE (fun bo=>?_)
  refine Qey (r1.up (M':=(bo,.arr [],TR)::(D++(F.flatten++M))) uc sb) (El.ones el1 fun _ _ h=>Qbe h) (fun p4 c4 D4 h4=>?_)
  refine Qcp h4 (List.Perm.refl _) (r2.up (M':=D4++(bo,.arr [],TR)::(D++(F.flatten++M))) uc sb) (El.ones el2 fun _ _ h=>Qbe h) (fun p5 c5 D5 h5=>?_)
  refine QF (j:=i) him rfl ?_
  refine QZ (X:=(bo,.arr [],TR)::(D5++(F.flatten++M))) hrow pm him (fun D3 hr3=>?_)
  refine Qg (M':=(bo,.arr [],TR)::(D3++((F++[D5]).flatten++M))) ?_ pm
  refine yJ (M':=D3++((F++[D5]).flatten++M)) (List.sublist_cons_self ..) ?_
  have hsl:=hrow.len.1
  have hvi:(svs.set i (.slice p5 (n+k) c5))[i]?=some (.slice p5 (n+k) c5):=List.getElem?_set_self (by omega)
  have hgi:Gs rO (n+k) U ((svs.set i (.slice p5 (n+k) c5)).take i) F (side n A B):=by rw [List.take_set_of_le (Nat.le_refl i)]; exact hg
  generalize svs.set i (.slice p5 (n+k) c5)=sv2 at hr3 hvi hgi
  try refine Qa ?_
  exact Qi (E':=[(12,.int .i64 ((i:Int)+1)),(5,.slice (some ⟨b2,0,none⟩) m m),(11,.int .i64 (m:Int)),(0,.slice p1 m c1),(1,.slice p2 m c2)]) (m:=m - (i+1)) ⟨rfl,rfl,rfl,rfl,rfl,trivial⟩ (by omega)
   ⟨i+1,sv2,D3,F++[D5],by omega,hr3,by
    rw [List.take_add_one,hvi]
    exact hgi.snoc (n:=i) (by rw [List.length_take,hr3.len.1]; omega) h5.len.2.1 h5 (Qao r1.len (el1.congr r1.len fun t ht=>by unfold side; rw [if_pos ht]) (fun t x ht=>by
     unfold side
     rw [if_neg (by omega),Nat.add_sub_cancel_left]; exact el2 t x ht)),rfl,rfl,rfl,rfl⟩
 ·have e:i=m:=by omega
  subst e
  try refine Qa ?_
  rw [List.take_of_length_le (by rw [hrow.len.1]; exact Nat.le_refl _)] at hg
  exact Qe (D++F.flatten) sym rfl (.cons (.tmp rfl) .nil) uc sb (.inl rfl) ⟨⟨D,F,_,_,svs,rfl,rfl,hrow,hg⟩,uc⟩
end Go.Proofs.Ytahcddpdgpjbnaa

/- Walks of matrix: kernels. -/
namespace Go.Proofs.Ytahcddpdgpjbnaa
open Go.Hp
variable {G:World} {U U':UH} {M M':MH}
theorem vO (n:Nat) (T:Nat→Nat→Rat):side n T La.idm=La.aug n T:=rfl
theorem Qcu {m n b:Nat} {T:Nat→Nat→Rat} (hb1:1≤b) (hs:∀ i j,i < m→j < n→Szq (T i j) b):∀ i j,i < m→j < n+m→Szq (La.aug n T i j) b:=fun i j hi hj=>by
 unfold La.aug
 split
 ·rename_i h; exact hs i j hi h
 ·unfold La.idm
  split
  ·exact Yw.mono hb1
  ·exact Yk.mono hb1
theorem jP {m n b:Nat} (hm1:m≤1000) (hn1:n≤1000) (_:b≤1000000000):m*n≤1000*1000∧m*(n+m)≤1000*2000:=⟨Nat.mul_le_mul hm1 hn1,Nat.mul_le_mul hm1 (by omega)⟩
end Go.Proofs.Ytahcddpdgpjbnaa

/- Walks of matrix: Kernel and Inverse. -/
namespace Go.Proofs.Ytahcddpdgpjbnaa
open Go.Hp
variable {G:World} {U U':UH} {M M':MH}
end Go.Proofs.Ytahcddpdgpjbnaa
