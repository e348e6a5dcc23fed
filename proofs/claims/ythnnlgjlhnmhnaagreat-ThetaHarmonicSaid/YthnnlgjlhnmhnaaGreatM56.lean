/- Texts of this seat's own, merged: each begins with its own remark. -/
import Derived.Test.YthnnlgjlhnmhnaaGreatM53
import Derived.Test.YthnnlgjlhnmhnaaGreatM10
import Derived.Test.YthnnlgjlhnmhnaaGreatM50
import Derived.Test.YthnnlgjlhnmhnaaGreatM51
import Derived.Test.YthnnlgjlhnmhnaaGreatM15
import Derived.Test.YthnnlgjlhnmhnaaGreatM9
import Derived.Test.YthnnlgjlhnmhnaaGreatM17
import Derived.Test.YthnnlgjlhnmhnaaGreatM95
/- Walk of halfplaneref36.det: elimination without fractions. -/
namespace Go.Proofs.YthnnlgjlhnmhnaaGreat
open Go.Hp
variable {G:World} {U U':UH} {M:MH}
abbrev TJ:Nat:=46
abbrev TJs:Nat:=114
def Zn (U:UH) (v:Value) (z:Int):Prop:=∃ x:IV,v=x.v∧x.nrm U [] z
instance:KeptC Zn:=⟨fun _ _ _ _ hU ⟨x,h1,h2⟩=>⟨x,h1,h2.up hU (List.Sublist.refl _)⟩⟩
def Zr (n:Nat) (U:UH) (v:Value) (g:Nat→Int):Prop:=Ls Zn 2 n U [] v g
instance {n:Nat}:KeptC (Zr n):=⟨fun _ _ _ _ hU h=>Ls.up h KeptC.out hU (List.Sublist.refl _)⟩
abbrev zJ:MH→Option Addr→Nat→Nat→List Value→Prop:=fun D p n _ vs=>RowW TJ 2 D p n vs
theorem Qjj {v:Value} {z:Int} (h:Zn U v z):v.cells.toList.all Value.oneCell'=true:=by obtain ⟨x,rfl,-⟩:=h; rfl
theorem pgj {α:Type} {a b:List α} (h:∀ f:α→Nat,(a.map f).sum=(b.map f).sum:=by intro f; simp only [List.set_cons_zero,List.set_cons_succ,TInt,TIs,TR,TM,TJ,TJs,zeroQV,zeroIV0,QV.v,List.map_append,List.map_cons,List.sum_append,List.sum_cons,List.flatten_cons,List.flatten_append,List.flatten_nil,List.map_nil,List.sum_nil,List.nil_append,List.append_nil]; omega):a.Perm b:=pq h
def zs:Nat→Nat
 | 0=>1
 | k+1=>2*zs k+2
theorem Qjk {k:Nat} (hk:k≤8):zs k≤1000:=by
 rcases show k=0∨k=1∨k=2∨k=3∨k=4∨k=5∨k=6∨k=7∨k=8 by omega with rfl | rfl | rfl | rfl | rfl | rfl | rfl | rfl | rfl<;>decide
theorem QiO {z u:Int} {k:Nat} (h:Sz z k):Sz (z / u) k:=by
 refine Nat.lt_of_le_of_lt ?_ h
 exact Int.natAbs_ediv_le_natAbs z u
theorem Qei {α:Type} {A:Nat→Nat→α} {p q:Nat}:La.swap A p q=La.swap A q p:=funext fun i=>by
 unfold La.swap
 by_cases h1:i=p
 ·by_cases h2:i=q
  ·subst h1; subst h2; rfl
  ·rw [if_pos h1,if_neg h2,if_pos h1]
 ·by_cases h2:i=q
  ·rw [if_neg h1,if_pos h2,if_pos h2]
  ·rw [if_neg h1,if_neg h2,if_neg h2,if_neg h1]
set_option maxHeartbeats 4000000 in
theorem qJ {n:Nat} {v:Value} {A:Nat→Nat→Int} (h:Ls (Zr n) 1 n U [] v A) (hA:∀ i j,i < n→j < n→Sz (A i j) 1) (hn:n≤8) :
  Ct Tryz.prog 42 [v] G U M fun v U' D=>∃ x:IV,v=x.v∧x.nrm U' [] (Lr.det n A)∧D=[]:=by
 obtain ⟨p,cin,ins,rfl,hcin,rin,ein⟩:=h
 refine Qh Tryz.func42 rfl rfl rfl rfl ?_
 repeat (first|refine Qc ?_|refine Qa fun _=>?_|refine w_al fun _=>?_)
 rename_i b2
 refine QQ (m:=n) (n:=n) sym rfl rfl rfl rfl rfl rfl rfl rfl rfl (Nat.le_refl n) (by omega) (by omega) rfl rfl rfl rfl (fun bo=>?_)
 have hrow:=Jk (e:=TJs) (s:=1) (b:=bo) (n:=n) (z := .slice none 0 0) rfl (by omega)
 try refine Qb ?_
 refine Yu (M':=(b2,.var (.agg #[.bool false,.slice none 0 0]),TJ)::([(bo,.arr (List.replicate n (.slice none 0 0)),TJs)]++M)) pgj ?_
 generalize List.replicate n (Value.slice none 0 0)=svs0 at hrow ⊢
 generalize [(bo,Blk.arr svs0,TJs)]=D0 at hrow ⊢
 try refine Qu (M':=(b2,.var (.agg #[.bool false,.slice none 0 0]),TJ)::(D0++(([]).flatten++M))) (ULe.refl _) sbk ?_
 refine Ql (fun z E U' M'=>∃ (i:Nat) (svs:List Value) (Dx:MH) (F:List MH),i≤n∧RowO TJs 1 Dx (some ⟨bo,0,none⟩) n n svs∧Gz Zn zJ n U' (svs.take i) F A∧E=[(4,.int .i64 (i:Int)),(3,.slice (some ⟨bo,0,none⟩) n n),(2,.pointer (some ⟨b2,0,none⟩)),(0,.slice p n cin)]∧ULe U U'∧M'=(b2,.var (.agg #[.bool false,.slice none 0 0]),TJ)::(Dx++(F.flatten++M))∧z=n - i) (n0:=n - 0) (E0:=[(4,.int .i64 ((0:Nat):Int)),(3,.slice (some ⟨bo,0,none⟩) n n),(2,.pointer (some ⟨b2,0,none⟩)),(0,.slice p n cin)]) ⟨rfl,rfl,rfl,rfl,trivial⟩ ⟨0,svs0,D0,[],by omega,hrow,Gz.nil,rfl,uc,rfl,rfl⟩ ?_
 clear hrow
 rintro z E U1 M' ⟨i,svs,Dx,F,hi,hrow,hg,rfl,hU1,rfl,rfl⟩
 try refine Qb ?_
 refine Qi rfl (fun h=>?_) (fun h=>?_)
 ·have hin:i < n:=by omega
  obtain ⟨v1,hv1⟩:=rin.at hin
  obtain ⟨q1,c1,us1,rfl,hc1,r1,e1⟩:=ein _ _ hv1
  try refine Qb ?_
  refine Qin (fun b22=>?_)
  try refine Qb ?_
  refine sl_y (Qf sym rfl rfl rfl rfl rfl rfl ((rin.up uc sb).lt hv1) ((rin.up uc sb).get _ _ hv1).1) rfl rfl rfl rfl ?_; refine sl_y (Qk sym rfl rfl rfl rfl (rin.up uc sb) hv1 rfl) rfl rfl rfl rfl ?_
  try refine Qb ?_
  refine Qgx (r1.ls uc) (e1.ones fun _ _ h=>Qjj h) (fun q4 c4 D4 hr4=>?_)
  try refine Qb ?_
  refine QB (j:=i) hin rfl ?_
  refine QG (v := .slice q4 n c4) (X:=D4++((b22,.arr [],TJ)::(b2,.var (.agg #[.bool false,.slice none 0 0]),TJ)::(F.flatten++M))) hrow pgj hin (fun D3 hr3=>?_)
  refine Qj (M':=(b22,.arr [],TJ)::(b2,.var (.agg #[.bool false,.slice none 0 0]),TJ)::(D3++((F++[D4]).flatten++M))) ?_ pgj
  try refine Qb ?_
  have hlen:=hrow.len.1
  have htk:(svs.set i (.slice q4 n c4)).take (i+1)=svs.take i++[.slice q4 n c4]:=by
   rw [List.take_add_one,List.take_set_of_le (Nat.le_refl i),List.getElem?_set_self (by omega)]; rfl
  refine QU (M':=(b2,.var (.agg #[.bool false,.slice none 0 0]),TJ)::(D3++((F++[D4]).flatten++M))) (ULe.refl _) sbk ?_
  exact Qg (E':=[(4,.int .i64 ((i:Int)+1)),(3,.slice (some ⟨bo,0,none⟩) n n),(2,.pointer (some ⟨b2,0,none⟩)),(0,.slice p n cin)]) (m:=n - (i+1)) ⟨rfl,rfl,rfl,rfl,trivial⟩ (by omega) ⟨i+1,svs.set i (.slice q4 n c4),D3,F++[D4],by omega,hr3,by rw [htk]; exact hg.snoc (by rw [List.length_take]; omega) hr4.len.2.1 hr4.w (e1.up KeptC.out uc),rfl,uc,rfl,rfl⟩
 obtain rfl:n=i:=by omega
 have hlen:=hrow.len.1
 rw [List.take_of_length_le (by omega)] at hg
 replace hrow:=hrow.w
 try refine Qb ?_
 refine Qd rfl rfl rfl rfl rfl rfl (fun _=>(Qaw (z:=1) (by decide) (by decide)).settle) ?_
 rintro v Uh29 D hU ⟨rfl,_,_,⟨xh29,rfl,h29,-⟩,-,-,hs⟩
 replace h29:=h29.sett hs
 clear hs
 repeat (first|refine Qc ?_|refine Qa fun _=>?_|refine w_al fun _=>?_)
 refine Qd rfl rfl rfl rfl rfl rfl (fun _=>(Qaw (z:=1) (by decide) (by decide)).settle) ?_
 rintro v Uh30 D hU ⟨rfl,_,_,⟨xh30,rfl,h30,-⟩,-,-,hs⟩
 replace h30:=h30.sett hs
 clear hs
 repeat (first|refine Qc ?_|refine Qa fun _=>?_|refine w_al fun _=>?_)
 rename_i b5 b6
 have hz1:Sz (1:Int) (zs 0):=by unfold Sz; decide
 have hA0:∀ i j,i < n→j < n→Sz (A i j) (zs 0):=hA
 clear hlen
 try refine Qu (M':=(b6,.var xh30.v,TJ)::(b5,.var xh29.v,TJ)::(b2,.var (.agg #[.bool false,.slice none 0 0]),TJ)::(Dx++(F.flatten++M))) (ULe.refl _) sbk ?_
 refine Ql (fun z E U' M'=>∃ (k:Nat) (A':La.Mx Int) (u:La.Mx Rat) (a:La.Mx Int) (last sign:Int) (xl xs:IV) (svs:List Value) (Dx:MH) (F:List MH),k≤n∧Bz.Br n A k A' u a last sign∧xl.nrm U' [] last∧xs.nrm U' [] sign∧Sz last (zs k)∧Sz sign 1∧RowW TJs 1 Dx (some ⟨bo,0,none⟩) n svs∧Gz Zn zJ n U' svs F a∧(∀ i j,i < n→j < n→Sz (a i j) (zs k))∧E=[(7,.int .i64 (k:Int)),(3,.slice (some ⟨bo,0,none⟩) n n),(5,.pointer (some ⟨b5,0,none⟩)),(6,.pointer (some ⟨b6,0,none⟩)),(2,.pointer (some ⟨b2,0,none⟩))]∧ULe Uh30 U'∧M'=(b6,.var xl.v,TJ)::(b5,.var xs.v,TJ)::(b2,.var (.agg #[.bool false,.slice none 0 0]),TJ)::(Dx++(F.flatten++M))∧z=n - k) (n0:=n - 0) (E0:=[(7,.int .i64 ((0:Nat):Int)),(3,.slice (some ⟨bo,0,none⟩) n n),(5,.pointer (some ⟨b5,0,none⟩)),(6,.pointer (some ⟨b6,0,none⟩)),(2,.pointer (some ⟨b2,0,none⟩))]) ⟨rfl,rfl,rfl,rfl,rfl,trivial⟩ ⟨0,A,(fun i j=>((A i j:Int):Rat)),A,1,1,xh30,xh29,svs,Dx,F,by omega,Bz.Br.start,h30,h29.up uc (List.Sublist.refl _),hz1,hz1,hrow,hg.up uc,hA0,rfl,uc,rfl,rfl⟩ ?_
 clear hrow hg hz1 hA0 h29 h30
 rintro z E U1 M' ⟨k,A',u,a,last,sign,xl,xs,svs,Dx,F,hk,hB,hxl,hxs,hsl,hss,hrow,hg,ha,rfl,hU1,rfl,rfl⟩
 try refine Qb ?_
 have hlen:=hrow.len
 have hzk:=Qjk (show k≤8 by omega)
 refine Qi rfl (fun h=>?_) (fun h=>?_)
 ·have hkn:k < n:=by omega
  repeat (first|refine Ji ?_|refine Qa fun _=>?_|refine w_al fun _=>?_)
  refine QE ?_
  refine JO ?_
  refine QE ?_
  repeat (first|refine Ji ?_|refine Qa fun _=>?_|refine w_al fun _=>?_)
  refine Qo (fun E U' M'=>∃ (p:Nat),k≤p∧p≤n∧(∀ i,k≤i→i < p→a i k=0)∧(p < n→a p k≠0)∧U1=U'∧E=[(8,.int .i64 (p:Int)),(7,.int .i64 (k:Int)),(3,.slice (some ⟨bo,0,none⟩) n n),(5,.pointer (some ⟨b5,0,none⟩)),(6,.pointer (some ⟨b6,0,none⟩)),(2,.pointer (some ⟨b2,0,none⟩))]∧ULe U1 U'∧M'=(b6,.var xl.v,TJ)::(b5,.var xs.v,TJ)::(b2,.var (.agg #[.bool false,.slice none 0 0]),TJ)::(Dx++(F.flatten++M))) ?_ ?_
  ·try refine Qb ?_
   try refine Qu (M':=(b6,.var xl.v,TJ)::(b5,.var xs.v,TJ)::(b2,.var (.agg #[.bool false,.slice none 0 0]),TJ)::(Dx++(F.flatten++M))) (ULe.refl _) sbk ?_
   refine Ql (fun z E U' M'=>∃ (p:Nat),k≤p∧p≤n∧(∀ i,k≤i→i < p→a i k=0)∧U1=U'∧E=[(8,.int .i64 (p:Int)),(7,.int .i64 (k:Int)),(3,.slice (some ⟨bo,0,none⟩) n n),(5,.pointer (some ⟨b5,0,none⟩)),(6,.pointer (some ⟨b6,0,none⟩)),(2,.pointer (some ⟨b2,0,none⟩))]∧ULe U1 U'∧M'=(b6,.var xl.v,TJ)::(b5,.var xs.v,TJ)::(b2,.var (.agg #[.bool false,.slice none 0 0]),TJ)::(Dx++(F.flatten++M))∧z=n - p) (n0:=n - k) (E0:=[(8,.int .i64 ((k:Nat):Int)),(7,.int .i64 (k:Int)),(3,.slice (some ⟨bo,0,none⟩) n n),(5,.pointer (some ⟨b5,0,none⟩)),(6,.pointer (some ⟨b6,0,none⟩)),(2,.pointer (some ⟨b2,0,none⟩))]) ⟨rfl,rfl,rfl,rfl,rfl,rfl,trivial⟩ ⟨k,Nat.le_refl k,by omega,(fun i h1 h2=>absurd h1 (by omega)),rfl,rfl,uc,rfl,rfl⟩ ?_
   rintro z E U2 M' ⟨p,hkp,hpn,hz0,rfl,rfl,hU2,rfl,rfl⟩
   try refine Qb ?_
   refine Qw rfl rfl (fun h1=>?_) (fun h1=>?_)
   ·have hpn':p < n:=by omega
    have rA:=hrow.at (U:=U1) (M:=(b6,.var xl.v,TJ)::(b5,.var xs.v,TJ)::(b2,.var (.agg #[.bool false,.slice none 0 0]),TJ)::(Dx++(F.flatten++M))) sb
    obtain ⟨q,c',vs,Di,hv,hFi,hcc',hR,hel,hiF,-⟩:=hg.put (i:=p) (by omega)
    have rB:=hR.at (U:=U1) (M:=(b6,.var xl.v,TJ)::(b5,.var xs.v,TJ)::(b2,.var (.agg #[.bool false,.slice none 0 0]),TJ)::(Dx++(F.flatten++M))) (((List.sublist_flatten_of_mem (List.mem_of_getElem? hFi)).trans (List.sublist_append_left ..)).trans sb)
    obtain ⟨v2,hv2⟩:=rB.at hkn
    obtain ⟨x2,rfl,hx2⟩:=hel _ _ hv2
    try refine Qb ?_
    refine sl_y (Qf sym rfl rfl rfl rfl rfl rfl (rA.lt hv) (rA.get _ _ hv).1) rfl rfl rfl rfl ?_; refine sl_y (Qk sym rfl rfl rfl rfl rA hv rfl) rfl rfl rfl rfl ?_
    try refine Qb ?_
    refine sl_y (Qf sym rfl rfl rfl rfl rfl rfl (rB.lt hv2) (rB.get _ _ hv2).1) rfl rfl rfl rfl ?_; refine sl_y (Qp sym rfl rfl rfl rfl rfl rB hv2) rfl rfl rfl rfl ?_
    try refine Qb ?_
    refine Qd rfl rfl rfl rfl rfl rfl (fun _=>YU (hx2.rep.up uc (List.nil_sublist _)) (hx2.le (ha p k hpn' hkn) (by omega))) ?_
    rintro v U' D hU ⟨rfl,rfl,rfl⟩
    repeat (first|refine Qc ?_|refine Qa fun _=>?_|refine w_al fun _=>?_)
    refine Qi rfl (fun h2=>?_) (fun h2=>?_)
    ·have h3:a p k=0:=Int.sign_eq_zero_iff_zero.1 h2
     try refine Qb ?_
     exact Qg (E':=[(8,.int .i64 ((p:Int)+1)),(7,.int .i64 (k:Int)),(3,.slice (some ⟨bo,0,none⟩) n n),(5,.pointer (some ⟨b5,0,none⟩)),(6,.pointer (some ⟨b6,0,none⟩)),(2,.pointer (some ⟨b2,0,none⟩))]) (m:=n - (p+1)) ⟨rfl,rfl,rfl,rfl,rfl,rfl,trivial⟩ (by omega) ⟨p+1,by omega,by omega,(fun i h4 h5=>by
      rcases Nat.lt_or_eq_of_le (Nat.le_of_lt_succ h5) with h6 | h6
      ·exact hz0 i h4 h6
      ·rw [h6]; exact h3),rfl,rfl,uc,rfl,rfl⟩
    ·try refine Qb ?_
     exact Qn (E':=[(8,.int .i64 (p:Int)),(7,.int .i64 (k:Int)),(3,.slice (some ⟨bo,0,none⟩) n n),(5,.pointer (some ⟨b5,0,none⟩)),(6,.pointer (some ⟨b6,0,none⟩)),(2,.pointer (some ⟨b2,0,none⟩))]) ⟨rfl,rfl,rfl,rfl,rfl,rfl,trivial⟩ ⟨p,hkp,hpn,hz0,(fun _ h3=>h2 (by rw [h3]; rfl)),rfl,rfl,uc,rfl⟩
   ·try refine Qb ?_
    exact Qn (E':=[(8,.int .i64 (p:Int)),(7,.int .i64 (k:Int)),(3,.slice (some ⟨bo,0,none⟩) n n),(5,.pointer (some ⟨b5,0,none⟩)),(6,.pointer (some ⟨b6,0,none⟩)),(2,.pointer (some ⟨b2,0,none⟩))]) ⟨rfl,rfl,rfl,rfl,rfl,rfl,trivial⟩ ⟨p,hkp,hpn,hz0,(fun h3=>absurd h3 (by omega)),rfl,rfl,uc,rfl⟩
  rintro E U2 M' ⟨p,hkp,hpn,hz0,hp0,rfl,rfl,hU2,rfl⟩
  try refine Qb ?_
  refine JQ rfl (fun h1=>?_) (fun h1=>?_)
  ·have hd:=hB.none hkn fun i h2 h3=>hz0 i h2 (by omega)
   try refine Qb ?_
   refine Qd rfl rfl rfl rfl rfl rfl (fun _=>(Qaw (z:=0) (by decide) (by decide)).settle) ?_
   rintro v Uh59 D hU ⟨rfl,_,_,⟨xh59,rfl,h59,-⟩,-,-,hs⟩
   replace h59:=h59.sett hs
   clear hs
   repeat (first|refine Qc ?_|refine Qa fun _=>?_|refine w_al fun _=>?_)
   rw [← hd] at h59
   exact Qe [] sym rfl (.cons (.cell 2 rfl rfl rfl) .nil) uc sb (.inl rfl) ⟨xh59,rfl,h59,rfl⟩
  have hpn':p < n:=by omega
  have hp0:=hp0 hpn'
  clear h1 hpn
  repeat (first|refine Ji ?_|refine Qa fun _=>?_|refine w_al fun _=>?_)
  refine Qo (fun E U' M'=>∃ (A2:La.Mx Int) (u2:La.Mx Rat) (a2:La.Mx Int) (sg2:Int) (xs2:IV) (sv2:List Value) (D2:MH) (F2:List MH),Bz.Br n A k A2 u2 a2 last sg2∧xs2.nrm U' [] sg2∧Sz sg2 1∧RowW TJs 1 D2 (some ⟨bo,0,none⟩) n sv2∧Gz Zn zJ n U' sv2 F2 a2∧(∀ i j,i < n→j < n→Sz (a2 i j) (zs k))∧a2 k k≠0∧E=[(7,.int .i64 (k:Int)),(3,.slice (some ⟨bo,0,none⟩) n n),(5,.pointer (some ⟨b5,0,none⟩)),(6,.pointer (some ⟨b6,0,none⟩)),(2,.pointer (some ⟨b2,0,none⟩))]∧ULe U1 U'∧M'=(b6,.var xl.v,TJ)::(b5,.var xs2.v,TJ)::(b2,.var (.agg #[.bool false,.slice none 0 0]),TJ)::(D2++(F2.flatten++M))) ?_ ?_
  ·try refine Qb ?_
   refine QK rfl (fun h2=>?_) (fun h2=>?_)
   ·have hkp':k < p:=by omega
    have rA:=hrow.at (U:=U1) (M:=(b6,.var xl.v,TJ)::(b5,.var xs.v,TJ)::(b2,.var (.agg #[.bool false,.slice none 0 0]),TJ)::(Dx++(F.flatten++M))) sb
    obtain ⟨vk,vp,F3,hvk,hvp,hF3,hg3⟩:=hg.swap (r:=k) (i:=p) (by omega) (by omega)
    obtain ⟨qk,ck,-,-,hvk',-⟩:=hg.put (i:=k) (by omega)
    obtain ⟨qp,cp,-,-,hvp',-⟩:=hg.put (i:=p) (by omega)
    obtain rfl:vk=_:=Option.some.inj (hvk.symm.trans hvk')
    obtain rfl:vp=_:=Option.some.inj (hvp.symm.trans hvp')
    try refine Qb ?_
    refine Qx [12,13,14,15] [0,1,2,3,4,5,6,7,8,9,10,11,12,13,14,15] sym (by kernel_rfl) ?_
    try refine Qb ?_
    refine sl_y (Qf sym rfl rfl rfl rfl rfl rfl (rA.lt hvk) (rA.get _ _ hvk).1) rfl rfl rfl rfl ?_; refine sl_y (Qk sym rfl rfl rfl rfl rA hvk rfl) rfl rfl rfl rfl ?_
    try refine Qb ?_
    refine sl_y (Qf sym rfl rfl rfl rfl rfl rfl (rA.lt hvp) (rA.get _ _ hvp).1) rfl rfl rfl rfl ?_; refine sl_y (Qk sym rfl rfl rfl rfl rA hvp rfl) rfl rfl rfl rfl ?_
    try refine Qb ?_
    refine QB (j:=p) hpn' rfl ?_
    refine qf (v := .slice qk n ck) (X:=(b6,.var xl.v,TJ)::(b5,.var xs.v,TJ)::(b2,.var (.agg #[.bool false,.slice none 0 0]),TJ)::(F.flatten++M)) hrow pgj hpn' (fun D2 hr2=>?_)
    refine QB (j:=k) hkn rfl ?_
    refine qf (v := .slice qp n cp) (X:=(b6,.var xl.v,TJ)::(b5,.var xs.v,TJ)::(b2,.var (.agg #[.bool false,.slice none 0 0]),TJ)::(F.flatten++M)) hr2 (List.Perm.refl _) hkn (fun D3 hr3=>?_)
    refine Qj (M':=(b6,.var xl.v,TJ)::(b5,.var xs.v,TJ)::(b2,.var (.agg #[.bool false,.slice none 0 0]),TJ)::(D3++(F3.flatten++M))) ?_ (List.Perm.trans (l₂:=D3++((b6,.var xl.v,TJ)::(b5,.var xs.v,TJ)::(b2,.var (.agg #[.bool false,.slice none 0 0]),TJ)::(F3.flatten++M))) (List.Perm.append_left D3 (((hF3.symm.append_right M).cons _).cons _ |>.cons _)) pgj)
    try refine Qb ?_
    refine Qd rfl rfl rfl rfl rfl rfl (fun _=>(yy (hxs.rep.up uc (List.nil_sublist _)) (hxs.le hss (by decide))).settle) ?_
    rintro v Uh78 D hU ⟨rfl,_,_,⟨xh78,rfl,h78,-⟩,-,-,hs⟩
    replace h78:=h78.sett hs
    clear hs
    repeat (first|refine Qc ?_|refine Qa fun _=>?_|refine w_al fun _=>?_)
    rw [Qei] at hg3
    exact Qn (E':=[(7,.int .i64 (k:Int)),(3,.slice (some ⟨bo,0,none⟩) n n),(5,.pointer (some ⟨b5,0,none⟩)),(6,.pointer (some ⟨b6,0,none⟩)),(2,.pointer (some ⟨b2,0,none⟩))]) ⟨rfl,rfl,rfl,rfl,rfl,trivial⟩ ⟨La.swap A' p k,La.swap u p k,La.swap a p k,-sign,xh78,_,D3,F3,hB.swap hkp' hpn',h78,hss.neg,hr3,hg3.up uc,(fun i j hi hj=>by
     by_cases e1:i=p
     ·subst e1; rw [La.swap_at.1]; exact ha k j hkn hj
     ·by_cases e2:i=k
      ·subst e2; rw [La.swap_at.2]; exact ha p j hpn' hj
      ·rw [La.swap_ne e1 e2]; exact ha i j hi hj),by rw [La.swap_at.2]; exact hp0,rfl,uc,rfl⟩
   ·obtain rfl:k=p:=by omega
    try refine Qb ?_
    exact Qn (E':=[(7,.int .i64 (k:Int)),(3,.slice (some ⟨bo,0,none⟩) n n),(5,.pointer (some ⟨b5,0,none⟩)),(6,.pointer (some ⟨b6,0,none⟩)),(2,.pointer (some ⟨b2,0,none⟩))]) ⟨rfl,rfl,rfl,rfl,rfl,trivial⟩ ⟨A',u,a,sign,xs,svs,Dx,F,hB,hxs,hss,hrow,hg,ha,hp0,rfl,uc,rfl⟩
  rintro E U2 M' ⟨A2,u2,a2,sg2,xs2,sv2,D2,F2,hB2,hxs2,hss2,hrow2,hg2,ha2,hpiv,rfl,hU2,rfl⟩
  clear hB hxs hss hrow hg ha hp0 hz0 hlen
  have hlen:=hrow2.len
  obtain ⟨B,hb1,hnext⟩:=hB2.step hkn hpiv
  have hl0:last≠0:=fun e=>hB2.ne (by rw [← hB2.last,e]; rfl)
  have hquo:∀ i j,k < i→i < n→k < j→j < n→(a2 i j*a2 k k - a2 i k*a2 k j) / last=B i j:=fun i j h1 h2 h3 h4=>by
   rw [hb1 i j h1 h2 h3 h4]
   exact Int.mul_ediv_cancel _ hl0
  have hsB:∀ i j,k < i→i < n→k < j→j < n→Sz (B i j) (zs (k+1)):=fun i j h1 h2 h3 h4=>by
   rw [← hquo i j h1 h2 h3 h4]
   have m1:=(ha2 i j h2 h4).mul (ha2 k k hkn hkn)
   have m2:=(ha2 i k h2 hkn).mul (ha2 k j hkn h4)
   exact (QiO (m1.sub m2)).mono (by show zs k+zs k+1≤2*zs k+2; omega)
  try refine Qb ?_
  try refine Qu (M':=(b6,.var xl.v,TJ)::(b5,.var xs2.v,TJ)::(b2,.var (.agg #[.bool false,.slice none 0 0]),TJ)::(D2++(F2.flatten++M))) (ULe.refl _) sbk ?_
  refine Ql (fun z E U' M'=>∃ (i:Nat) (F:List MH),k+1≤i∧i≤n∧Gz Zn zJ n U' sv2 F (fun s t=>if k < s∧s < i∧k < t then B s t else a2 s t)∧E=[(9,.int .i64 (i:Int)),(7,.int .i64 (k:Int)),(3,.slice (some ⟨bo,0,none⟩) n n),(5,.pointer (some ⟨b5,0,none⟩)),(6,.pointer (some ⟨b6,0,none⟩)),(2,.pointer (some ⟨b2,0,none⟩))]∧ULe U2 U'∧M'=(b6,.var xl.v,TJ)::(b5,.var xs2.v,TJ)::(b2,.var (.agg #[.bool false,.slice none 0 0]),TJ)::(D2++(F.flatten++M))∧z=n - i) (n0:=n - (k+1)) (E0:=[(9,.int .i64 ((k:Int)+1)),(7,.int .i64 (k:Int)),(3,.slice (some ⟨bo,0,none⟩) n n),(5,.pointer (some ⟨b5,0,none⟩)),(6,.pointer (some ⟨b6,0,none⟩)),(2,.pointer (some ⟨b2,0,none⟩))]) ⟨rfl,rfl,rfl,rfl,rfl,rfl,trivial⟩ ⟨k+1,F2,Nat.le_refl _,by omega,hg2.congr (n:=n) (by omega) (fun _ _ _ _ h=>h.len) (fun s t _ _=>by rw [if_neg (by omega)]),rfl,uc,rfl,rfl⟩ ?_
  clear hg2
  rintro z E U3 M' ⟨i,F,hki,hin,hg,rfl,hU3,rfl,rfl⟩
  try refine Qb ?_
  refine Qi rfl (fun h5=>?_) (fun h5=>?_)
  ·have hin':i < n:=by omega
   have hgJ:Gz Zn zJ n U3 sv2 F (fun s t=>if (k < s∧s < i∧k < t)∨(s=i∧k < t∧t < k+1) then B s t else a2 s t):=hg.congr (n:=n) (by omega) (fun _ _ _ _ h=>h.len) (fun s t _ _=>by
    by_cases e:k < s∧s < i∧k < t
    ·rw [if_pos e,if_pos (.inl e)]
    ·rw [if_neg e,if_neg (by omega)])
   try refine Qb ?_
   try refine Qu (M':=(b6,.var xl.v,TJ)::(b5,.var xs2.v,TJ)::(b2,.var (.agg #[.bool false,.slice none 0 0]),TJ)::(D2++(F.flatten++M))) (ULe.refl _) sbk ?_
   refine Ql (fun z E U' M'=>∃ (j:Nat) (F:List MH),k+1≤j∧j≤n∧Gz Zn zJ n U' sv2 F (fun s t=>if (k < s∧s < i∧k < t)∨(s=i∧k < t∧t < j) then B s t else a2 s t)∧E=[(10,.int .i64 (j:Int)),(9,.int .i64 (i:Int)),(7,.int .i64 (k:Int)),(3,.slice (some ⟨bo,0,none⟩) n n),(5,.pointer (some ⟨b5,0,none⟩)),(6,.pointer (some ⟨b6,0,none⟩)),(2,.pointer (some ⟨b2,0,none⟩))]∧ULe U3 U'∧M'=(b6,.var xl.v,TJ)::(b5,.var xs2.v,TJ)::(b2,.var (.agg #[.bool false,.slice none 0 0]),TJ)::(D2++(F.flatten++M))∧z=n - j) (n0:=n - (k+1)) (E0:=[(10,.int .i64 ((k:Int)+1)),(9,.int .i64 (i:Int)),(7,.int .i64 (k:Int)),(3,.slice (some ⟨bo,0,none⟩) n n),(5,.pointer (some ⟨b5,0,none⟩)),(6,.pointer (some ⟨b6,0,none⟩)),(2,.pointer (some ⟨b2,0,none⟩))]) ⟨rfl,rfl,rfl,rfl,rfl,rfl,rfl,trivial⟩ ⟨k+1,F,Nat.le_refl _,by omega,hgJ,rfl,uc,rfl,rfl⟩ ?_
   clear hg hgJ
   rintro z E U4 M' ⟨j,F,hkj,hjn,hg,rfl,hU4,rfl,rfl⟩
   try refine Qb ?_
   refine Qi rfl (fun h6=>?_) (fun h6=>?_)
   ·have hjn':j < n:=by omega
    have rA:=hrow2.at (U:=U4) (M:=(b6,.var xl.v,TJ)::(b5,.var xs2.v,TJ)::(b2,.var (.agg #[.bool false,.slice none 0 0]),TJ)::(D2++(F.flatten++M))) sb
    obtain ⟨q,c',vs,Di,hv,hFi,hcc',hR,hel,hiF,hput⟩:=hg.put (i:=i) (by omega)
    obtain ⟨qk,ck,vsk,Dk,hvk,hFk,-,hRk,helk,-,-⟩:=hg.put (i:=k) (by omega)
    have rB:=hR.at (U:=U4) (M:=(b6,.var xl.v,TJ)::(b5,.var xs2.v,TJ)::(b2,.var (.agg #[.bool false,.slice none 0 0]),TJ)::(D2++(F.flatten++M))) (((List.sublist_flatten_of_mem (List.mem_of_getElem? hFi)).trans (List.sublist_append_left ..)).trans sb)
    have rK:=hRk.at (U:=U4) (M:=(b6,.var xl.v,TJ)::(b5,.var xs2.v,TJ)::(b2,.var (.agg #[.bool false,.slice none 0 0]),TJ)::(D2++(F.flatten++M))) (((List.sublist_flatten_of_mem (List.mem_of_getElem? hFk)).trans (List.sublist_append_left ..)).trans sb)
    obtain ⟨v1,hv1⟩:=rB.at hjn'
    obtain ⟨x1,hx1v,hx1⟩:=hel _ _ hv1
    obtain ⟨v2,hv2⟩:=rK.at hkn
    obtain ⟨x2,hx2v,hx2⟩:=helk _ _ hv2
    obtain ⟨v3,hv3⟩:=rB.at hkn
    obtain ⟨x3,hx3v,hx3⟩:=hel _ _ hv3
    obtain ⟨v4,hv4⟩:=rK.at hjn'
    obtain ⟨x4,hx4v,hx4⟩:=helk _ _ hv4
    subst hx1v hx2v hx3v hx4v
    replace hx1:x1.nrm U4 [] (a2 i j):=by
     have h:x1.nrm U4 [] (if (k < i∧i < i∧k < j)∨(i=i∧k < j∧j < j) then B i j else a2 i j):=hx1
     rwa [if_neg (by omega)] at h
    replace hx2:x2.nrm U4 [] (a2 k k):=by
     have h:x2.nrm U4 [] (if (k < k∧k < i∧k < k)∨(k=i∧k < k∧k < j) then B k k else a2 k k):=hx2
     rwa [if_neg (by omega)] at h
    replace hx3:x3.nrm U4 [] (a2 i k):=by
     have h:x3.nrm U4 [] (if (k < i∧i < i∧k < k)∨(i=i∧k < k∧k < j) then B i k else a2 i k):=hx3
     rwa [if_neg (by omega)] at h
    replace hx4:x4.nrm U4 [] (a2 k j):=by
     have h:x4.nrm U4 [] (if (k < k∧k < i∧k < j)∨(k=i∧k < j∧j < j) then B k j else a2 k j):=hx4
     rwa [if_neg (by omega)] at h
    have m1:=(ha2 i j hin' hjn').mul (ha2 k k hkn hkn)
    have m2:=(ha2 i k hin' hkn).mul (ha2 k j hkn hjn')
    have m3:=m1.sub m2
    try refine Qb ?_
    refine Qx [38,39] [0,1,2,3,4,5,6,7,8,9,10,11,12,13,14,15,16,17,18,20,21,22,23,24,25,26,27,28,29,30,31,32,33,36,19,34,35,37,38,39] sym (by kernel_rfl) ?_
    try refine Qb ?_
    refine sl_y (Qf sym rfl rfl rfl rfl rfl rfl (rA.lt hv) (rA.get _ _ hv).1) rfl rfl rfl rfl ?_; refine sl_y (Qk sym rfl rfl rfl rfl rA hv rfl) rfl rfl rfl rfl ?_
    try refine Qb ?_
    refine sl_y (Qf sym rfl rfl rfl rfl rfl rfl (rA.lt hv) (rA.get _ _ hv).1) rfl rfl rfl rfl ?_; refine sl_y (Qk sym rfl rfl rfl rfl rA hv rfl) rfl rfl rfl rfl ?_
    try refine Qb ?_
    refine sl_y (Qf sym rfl rfl rfl rfl rfl rfl (rB.lt hv1) (rB.get _ _ hv1).1) rfl rfl rfl rfl ?_; refine sl_y (Qp sym rfl rfl rfl rfl rfl rB hv1) rfl rfl rfl rfl ?_
    try refine Qb ?_
    refine sl_y (Qf sym rfl rfl rfl rfl rfl rfl (rA.lt hvk) (rA.get _ _ hvk).1) rfl rfl rfl rfl ?_; refine sl_y (Qk sym rfl rfl rfl rfl rA hvk rfl) rfl rfl rfl rfl ?_
    try refine Qb ?_
    refine sl_y (Qf sym rfl rfl rfl rfl rfl rfl (rK.lt hv2) (rK.get _ _ hv2).1) rfl rfl rfl rfl ?_; refine sl_y (Qp sym rfl rfl rfl rfl rfl rK hv2) rfl rfl rfl rfl ?_
    try refine Qb ?_
    refine sl_y (Qf sym rfl rfl rfl rfl rfl rfl ((rA.up uc sb).lt hv) ((rA.up uc sb).get _ _ hv).1) rfl rfl rfl rfl ?_; refine sl_y (Qk sym rfl rfl rfl rfl (rA.up uc sb) hv rfl) rfl rfl rfl rfl ?_
    try refine Qb ?_
    refine sl_y (Qf sym rfl rfl rfl rfl rfl rfl ((rB.up uc sb).lt hv3) ((rB.up uc sb).get _ _ hv3).1) rfl rfl rfl rfl ?_; refine sl_y (Qp sym rfl rfl rfl rfl rfl (rB.up uc sb) hv3) rfl rfl rfl rfl ?_
    try refine Qb ?_
    refine sl_y (Qf sym rfl rfl rfl rfl rfl rfl ((rA.up uc sb).lt hvk) ((rA.up uc sb).get _ _ hvk).1) rfl rfl rfl rfl ?_; refine sl_y (Qk sym rfl rfl rfl rfl (rA.up uc sb) hvk rfl) rfl rfl rfl rfl ?_
    try refine Qb ?_
    refine sl_y (Qf sym rfl rfl rfl rfl rfl rfl ((rK.up uc sb).lt hv4) ((rK.up uc sb).get _ _ hv4).1) rfl rfl rfl rfl ?_; refine sl_y (Qp sym rfl rfl rfl rfl rfl (rK.up uc sb) hv4) rfl rfl rfl rfl ?_
    try refine Qb ?_
    refine Qd rfl rfl rfl rfl rfl rfl (fun _=>(Yo (hx1.rep.up uc (List.nil_sublist _)) (hx1.le (ha2 i j hin' hjn') (by omega)) (hx2.rep.up uc (List.nil_sublist _)) (hx2.le (ha2 k k hkn hkn) (by omega))).settle) ?_
    rintro v Uh114 D hU ⟨rfl,_,_,⟨xh114,rfl,h114,-⟩,-,-,hs⟩
    replace h114:=h114.sett hs
    clear hs
    repeat (first|refine Qc ?_|refine Qa fun _=>?_|refine w_al fun _=>?_)
    refine Qd rfl rfl rfl rfl rfl rfl (fun _=>(Yo (hx3.rep.up uc (List.nil_sublist _)) (hx3.le (ha2 i k hin' hkn) (by omega)) (hx4.rep.up uc (List.nil_sublist _)) (hx4.le (ha2 k j hkn hjn') (by omega))).settle) ?_
    rintro v Uh129 D hU ⟨rfl,_,_,⟨xh129,rfl,h129,-⟩,-,-,hs⟩
    replace h129:=h129.sett hs
    clear hs
    repeat (first|refine Qc ?_|refine Qa fun _=>?_|refine w_al fun _=>?_)
    refine Qd rfl rfl rfl rfl rfl rfl (fun _=>(Qbf (h114.rep.up uc (List.nil_sublist _)) (h114.le m1 (by omega)) (h129.rep.up uc (List.nil_sublist _)) (h129.le m2 (by omega))).settle) ?_
    rintro v Uh130 D hU ⟨rfl,_,_,⟨xh130,rfl,h130,-⟩,-,-,hs⟩
    replace h130:=h130.sett hs
    clear hs
    repeat (first|refine Qc ?_|refine Qa fun _=>?_|refine w_al fun _=>?_)
    refine Qd rfl rfl rfl rfl rfl rfl (fun _=>(Vo (h130.rep.up uc (List.nil_sublist _)) (h130.le m3 (by omega)) (hxl.rep.up uc (List.nil_sublist _)) (hxl.le hsl (by omega)) hl0).settle) ?_
    rintro v Uh132 D hU ⟨rfl,_,_,⟨xh132,rfl,h132,-⟩,-,-,hs⟩
    replace h132:=h132.sett hs
    clear hs
    repeat (first|refine Qc ?_|refine Qa fun _=>?_|refine w_al fun _=>?_)
    rw [hquo i j (by omega) hin' (by omega) hjn'] at h132
    refine QB (j:=j) hjn' (rB.get _ _ hv1).1 ?_
    refine qf (v:=xh132.v) (X:=(b6,.var xl.v,TJ)::(b5,.var xs2.v,TJ)::(b2,.var (.agg #[.bool false,.slice none 0 0]),TJ)::(D2++(((F.take i).flatten++(F.drop (i+1)).flatten)++M))) hR (QdJ (B:=(b6,.var xl.v,TJ)::(b5,.var xs2.v,TJ)::(b2,.var (.agg #[.bool false,.slice none 0 0]),TJ)::D2) (pickF hFi)) hjn' (fun D4 hr4=>?_)
    refine Qj (M':=(b6,.var xl.v,TJ)::(b5,.var xs2.v,TJ)::(b2,.var (.agg #[.bool false,.slice none 0 0]),TJ)::(D2++((F.set i D4).flatten++M))) ?_ (QdJ (B:=(b6,.var xl.v,TJ)::(b5,.var xs2.v,TJ)::(b2,.var (.agg #[.bool false,.slice none 0 0]),TJ)::D2) (putF hiF)).symm
    try refine Qb ?_
    have hgn:=hput Uh132 D4 _ (fun s t=>if (k < s∧s < i∧k < t)∨(s=i∧k < t∧t < j+1) then B s t else a2 s t) uc hr4 (YH (fun t x ht hne=>by
     have h9:Zn Uh132 x (if (k < i∧i < i∧k < t)∨(i=i∧k < t∧t < j) then B i t else a2 i t):=KeptC.out _ _ _ _ (show ULe U4 Uh132 from uc) (hel _ _ ht)
     show Zn Uh132 x (if (k < i∧i < i∧k < t)∨(i=i∧k < t∧t < j+1) then B i t else a2 i t)
     by_cases e:(k < i∧i < i∧k < t)∨(i=i∧k < t∧t < j)
     ·rw [if_pos e] at h9; rw [if_pos (by omega)]; exact h9
     ·rw [if_neg e] at h9; rw [if_neg (by omega)]; exact h9) (by
     show Zn Uh132 xh132.v (if (k < i∧i < i∧k < j)∨(i=i∧k < j∧j < j+1) then B i j else a2 i j)
     rw [if_pos (by omega)]
     exact ⟨_,rfl,h132⟩)) (fun t ht=>funext fun x=>by
     by_cases e:k < t∧t < i∧k < x
     ·rw [if_pos (.inl e),if_pos (.inl e)]
     ·rw [if_neg (by omega),if_neg (by omega)])
    exact Qg (E':=[(10,.int .i64 ((j:Int)+1)),(9,.int .i64 (i:Int)),(7,.int .i64 (k:Int)),(3,.slice (some ⟨bo,0,none⟩) n n),(5,.pointer (some ⟨b5,0,none⟩)),(6,.pointer (some ⟨b6,0,none⟩)),(2,.pointer (some ⟨b2,0,none⟩))]) (m:=n - (j+1)) ⟨rfl,rfl,rfl,rfl,rfl,rfl,rfl,trivial⟩ (by omega) ⟨j+1,F.set i D4,by omega,by omega,hgn,rfl,uc,rfl,rfl⟩
   ·obtain rfl:n=j:=by omega
    have hgn:Gz Zn zJ n U4 sv2 F (fun s t=>if k < s∧s < i+1∧k < t then B s t else a2 s t):=hg.congr (n:=n) (by omega) (fun _ _ _ _ h=>h.len) (fun s t _ ht=>by
     by_cases e:k < s∧s < i+1∧k < t
     ·rw [if_pos e,if_pos (by omega)]
     ·rw [if_neg e,if_neg (by omega)])
    try refine Qb ?_
    exact Qg (E':=[(9,.int .i64 ((i:Int)+1)),(7,.int .i64 (k:Int)),(3,.slice (some ⟨bo,0,none⟩) n n),(5,.pointer (some ⟨b5,0,none⟩)),(6,.pointer (some ⟨b6,0,none⟩)),(2,.pointer (some ⟨b2,0,none⟩))]) (m:=n - (i+1)) ⟨rfl,rfl,rfl,rfl,rfl,rfl,trivial⟩ (by omega) ⟨i+1,F,by omega,by omega,hgn,rfl,uc,rfl,rfl⟩
  ·obtain rfl:n=i:=by omega
   have rA:=hrow2.at (U:=U3) (M:=(b6,.var xl.v,TJ)::(b5,.var xs2.v,TJ)::(b2,.var (.agg #[.bool false,.slice none 0 0]),TJ)::(D2++(F.flatten++M))) sb
   obtain ⟨qk,ck,vsk,Dk,hvk,hFk,-,hRk,helk,-,-⟩:=hg.put (i:=k) (by omega)
   have rK:=hRk.at (U:=U3) (M:=(b6,.var xl.v,TJ)::(b5,.var xs2.v,TJ)::(b2,.var (.agg #[.bool false,.slice none 0 0]),TJ)::(D2++(F.flatten++M))) (((List.sublist_flatten_of_mem (List.mem_of_getElem? hFk)).trans (List.sublist_append_left ..)).trans sb)
   obtain ⟨v2,hv2⟩:=rK.at hkn
   obtain ⟨x2,rfl,hx2⟩:=helk _ _ hv2
   simp only [if_neg (show ¬ (k < k∧k < n∧k < k) by omega)] at hx2
   have hB3:=hnext (fun s t=>if k < s∧s < n∧k < t then B s t else a2 s t) (fun s t h1 h2 h3 h4=>if_pos ⟨h1,h2,h3⟩)
   have hsz3:∀ s t,s < n→t < n→Sz (if k < s∧s < n∧k < t then B s t else a2 s t) (zs (k+1)):=fun s t hs ht=>by
    by_cases e:k < s∧s < n∧k < t
    ·rw [if_pos e]; exact hsB s t e.1 e.2.1 e.2.2 ht
    ·rw [if_neg e]; exact (ha2 s t hs ht).mono (by show zs k≤2*zs k+2; omega)
   try refine Qb ?_
   refine sl_y (Qf sym rfl rfl rfl rfl rfl rfl (rA.lt hvk) (rA.get _ _ hvk).1) rfl rfl rfl rfl ?_; refine sl_y (Qk sym rfl rfl rfl rfl rA hvk rfl) rfl rfl rfl rfl ?_
   try refine Qb ?_
   refine sl_y (Qf sym rfl rfl rfl rfl rfl rfl (rK.lt hv2) (rK.get _ _ hv2).1) rfl rfl rfl rfl ?_; refine sl_y (Qp sym rfl rfl rfl rfl rfl rK hv2) rfl rfl rfl rfl ?_
   repeat (first|refine Qc ?_|refine Qa fun _=>?_|refine w_al fun _=>?_)
   exact Qg (E':=[(7,.int .i64 ((k:Int)+1)),(3,.slice (some ⟨bo,0,none⟩) n n),(5,.pointer (some ⟨b5,0,none⟩)),(6,.pointer (some ⟨b6,0,none⟩)),(2,.pointer (some ⟨b2,0,none⟩))]) (m:=n - (k+1)) ⟨rfl,rfl,rfl,rfl,rfl,trivial⟩ (by omega) ⟨k+1,A2,_,_,a2 k k,sg2,x2,xs2,sv2,D2,F,by omega,hB3,hx2,hxs2.up uc (List.Sublist.refl _),(ha2 k k hkn hkn).mono (by show zs k≤2*zs k+2; omega),hss2,hrow2,hg,hsz3,rfl,uc,rfl,rfl⟩
 ·obtain rfl:n=k:=by omega
  have hd:=hB.done
  try refine Qb ?_
  refine Qd rfl rfl rfl rfl rfl rfl (fun _=>(Yo (hxs.rep.up uc (List.nil_sublist _)) (hxs.le hss (by decide)) (hxl.rep.up uc (List.nil_sublist _)) (hxl.le hsl (by omega))).settle) ?_
  rintro v Uh143 D hU ⟨rfl,_,_,⟨xh143,rfl,h143,-⟩,-,-,hs⟩
  replace h143:=h143.sett hs
  clear hs
  repeat (first|refine Qc ?_|refine Qa fun _=>?_|refine w_al fun _=>?_)
  rw [← hd] at h143
  exact Qe [] sym rfl (.cons (.cell 2 rfl rfl rfl) .nil) uc sb (.inl rfl) ⟨xh143,rfl,h143,rfl⟩
end Go.Proofs.YthnnlgjlhnmhnaaGreat

/- Walks of layer 36's reference: rows, Check, Det. -/
namespace Go.Proofs.YthnnlgjlhnmhnaaGreat
open Go.Hp
open Classical
variable {K:Kont} {N:Nat} {G:World} {E:Env} {U U':UH} {M M':MH} {L:List Oper} {l:List Ent} {f:Bool} {i:Nat} {o:Oper}
theorem Qig {d t e:Nat} {x y y':Operand} {p:Option Addr} {n c lo hi bt bt' bt'' sz:Nat} {z z':Value} {ek:TK} {k k':IntKind} {iv iv':Int} (h1:lo≤hi) (h2:hi≤c)
  (hh:SL Tryz.prog tys L K N G l ((d,.slice (if c=lo then p else p.map (·.add (lo*sz))) (hi - lo) (c - lo))::E) U M)
  (ho:o.op = .slice t x (some y) (some y') none:=by exact rfl) (hx:ev E x=some (.slice p n c):=by exact rfl) (hy:ev E y=some (.int k iv):=by exact rfl) (hy':ev E y'=some (.int k' iv'):=by exact rfl)
  (hT:lkT tys t=some ⟨.slice e,bt,bt',z⟩:=by exact rfl) (he:lkT tys e=some ⟨ek,sz,bt'',z'⟩:=by exact rfl) (hv:iv=(lo:Int):=by exact rfl) (hv':iv'=(hi:Int):=by exact rfl)
  (hk:yB f tys o=true:=by exact rfl) (hd:o.dst=some d:=by exact rfl) (hN:Nat.blt d N=true:=by exact rfl) (hg:gok L E o.guard=some true:=by exact rfl):SL Tryz.prog tys L K N G ((f,i,o)::l) E U M :=
 sl_y (jC sym ho hx hT he (.inr ⟨y,k,iv,rfl,hy,hv⟩) (.inr ⟨y',k',iv',rfl,hy',hv'⟩) h1 h2) hk hd hN hg hh
theorem QiB {n:Nat} {vl:Value} {zf:Nat→Int} (hl:Ls Vz 1 n U M vl zf) (hn:n≤1000000) :
  Ct Tryz.prog 82 [vl] G U M fun v U' D=>Zr n U' v zf∧D=[]:=by
 refine Ct.setl (e:=TJ) ?_ KeptC.out
 obtain ⟨p1,c1,as1,rfl,-,ra,ea⟩:=hl
 refine Qh Tryz.func82 rfl rfl rfl rfl ?_
 repeat (first|refine Qc ?_|refine Qa fun _=>?_|refine w_al fun _=>?_)
 try refine Qu (M':=([])++M) (ULe.refl _) sbk ?_
 refine Ql (fun z E U' M'=>∃ (i:Nat) (p:Option Addr) (c:Nat) (vs:List Value) (D:MH),i≤n∧RowO TJ 2 D p i c vs∧El Zn U' vs zf∧E=[(3,.slice p i c),(4,.int .i64 (i:Int)),(0,.slice p1 n c1)]∧ULe U U'∧M'=D++M∧z=n - i) (n0:=n - 0) (E0:=[(3,.slice none 0 0),(4,.int .i64 ((0:Nat):Int)),(0,.slice p1 n c1)]) ⟨rfl,rfl,rfl,trivial⟩ ⟨0,none,0,[],[],by omega,RowO.nil,El.nil,rfl,uc,rfl,rfl⟩ ?_
 rintro z E U1 M' ⟨i,p,c,vs,D,hi,hrow,hel,rfl,hU1,rfl,rfl⟩
 try refine Qb ?_
 refine Qi rfl (fun h=>?_) (fun h=>?_)
 ·have hin:i < n:=by omega
  obtain ⟨v1,hv1⟩:=ra.at hin
  obtain ⟨rfl,hz0,hz1⟩:=ea _ _ hv1
  try refine Qb ?_
  refine sl_y (Qf sym rfl rfl rfl rfl rfl rfl ((ra.up uc sb).lt hv1) ((ra.up uc sb).get _ _ hv1).1) rfl rfl rfl rfl ?_; refine sl_y (Qk sym rfl rfl rfl rfl (ra.up uc sb) hv1 rfl) rfl rfl rfl rfl ?_
  refine Qd rfl rfl rfl rfl rfl rfl (fun _=>(Qaw hz0 hz1).settle) ?_
  rintro v Uh1 D hU ⟨rfl,_,_,⟨xh1,rfl,h1,-⟩,-,-,hs⟩
  replace h1:=h1.sett hs
  clear hs
  repeat (first|refine Qc ?_|refine Qa fun _=>?_|refine w_al fun _=>?_)
  refine Ye hrow (List.Perm.refl _) (fun bhr2 phr2 chr2 Dhr2 hr2=>?_)
  repeat (first|refine Qc ?_|refine Qa fun _=>?_|refine w_al fun _=>?_)
  exact Qg (E':=[(3,.slice phr2 (i+1) chr2),(4,.int .i64 ((i:Int)+1)),(0,.slice p1 n c1)]) (m:=n - (i+1)) ⟨rfl,rfl,rfl,trivial⟩ (by omega) ⟨i+1,phr2,chr2,_,Dhr2,by omega,hr2,JV hrow.len.1 (hel.up KeptC.out uc) ⟨xh1,rfl,h1⟩,rfl,uc,rfl,rfl⟩
 ·try refine Qb ?_
  obtain rfl:n=i:=by omega
  exact Qe D sym rfl (.cons (.tmp rfl) .nil) uc sb (.inl rfl) ⟨⟨p,c,vs,rfl,hrow,hel⟩,uc⟩
theorem yQ {r n Nn c:Nat} {p:Option Addr} {vs:List Value} {f:Nat→Int} (rw1:RowAt U [] 1 p Nn vs) (el:El Vz U vs f) (hN:Nn=r*r) (hr:r≤8) (hn:n≤r) (hc:Nn≤c) :
  Ct Tryz.prog 43 [.agg #[.int .i64 (r:Int),.slice p Nn c],.int .i64 (n:Int)] G U M fun v U' D=>Ls (Zr n) 1 n U' [] v (fun i j=>f (i*r+j))∧D=[]:=by
 refine Ct.setl (e:=TJs) ?_ KeptC.out
 subst hN
 have hrr:r*r≤8*8:=Nat.mul_le_mul hr hr
 refine Qh Tryz.func43 rfl rfl rfl rfl ?_
 repeat (first|refine Qc ?_|refine Qa fun _=>?_|refine w_al fun _=>?_)
 rename_i b2
 try refine Qu (M':=(b2,.var (.agg #[.int .i64 (r:Int),.slice p (r*r) c]),24)::(([])++M)) (ULe.refl _) sbk ?_
 refine Ql (fun z E U' M'=>∃ (i:Nat) (Q:Option Addr) (C:Nat) (us:List Value) (D:MH),i≤n∧RowO TJs 1 D Q i C us∧El (Zr n) U' us (fun i j=>f (i*r+j))∧E=[(6,.int .i64 (i:Int)),(5,.slice Q i C),(2,.pointer (some ⟨b2,0,none⟩)),(1,.int .i64 (n:Int))]∧ULe U U'∧M'=(b2,.var (.agg #[.int .i64 (r:Int),.slice p (r*r) c]),24)::(D++M)∧z=n - i) (n0:=n - 0) (E0:=[(6,.int .i64 ((0:Nat):Int)),(5,.slice none 0 0),(2,.pointer (some ⟨b2,0,none⟩)),(1,.int .i64 (n:Int))]) ⟨rfl,rfl,rfl,rfl,trivial⟩ ⟨0,none,0,[],[],by omega,RowO.nil,El.nil,rfl,uc,rfl,rfl⟩ ?_
 rintro z E U1 M' ⟨i,Q,C,us,D,hi,hrow,hel,rfl,hU1,rfl,rfl⟩
 try refine Qb ?_
 refine Qi rfl (fun h=>?_) (fun h=>?_)
 ·have hin:i < n:=by omega
  have hir:i*r+r≤r*r:=by
   have:=Nat.mul_le_mul_right r (show i+1≤r by omega)
   rwa [Nat.add_mul,Nat.one_mul] at this
  have hirn:i*r+n≤r*r:=by omega
  have e1:(i:Int)*(r:Int)=((i*r:Nat):Int):=(Int.natCast_mul i r).symm
  try refine Qb ?_
  refine Qig (lo:=i*r) (hi:=i*r+n) (n:=r*r) (c:=c) (by omega) (by omega) ?_ (hv:=e1) (hv':=by rw [e1,← Int.natCast_add])
  have rd:=rw1.part (lo:=i*r) (hi:=i*r+n) (by omega) hirn hc
  have ed:El Vz U ((vs.drop (i*r)).take (i*r+n - i*r)) (fun j=>f (i*r+j)):=fun k x hk=>by
   rw [List.getElem?_take] at hk
   split at hk
   ·rw [List.getElem?_drop] at hk; exact el _ _ hk
   ·cases hk
  generalize (if c=i*r then p else p.map (·.add (i*r*1)))=p2 at rd ⊢
  rw [Nat.add_sub_cancel_left] at rd ed ⊢
  try refine Qb ?_
  refine Qd rfl rfl rfl rfl rfl rfl (fun _=>QiB (n:=n) (zf:=fun j=>f (i*r+j)) ⟨_,_,_,rfl,by omega,rd.up uc (List.nil_sublist _),ed⟩ (by omega)) ?_
  rintro v3 U3 D3 hU3 ⟨⟨q3,c3,us3,rfl,h3⟩,rfl⟩
  try rw [List.nil_append]
  try refine Qb ?_
  refine Ye hrow (X:=(b2,.var (.agg #[.int .i64 (r:Int),.slice p (r*r) c]),24)::M) pgs (fun b P2 C2 D2 hr2=>?_)
  refine Qj (M':=(b2,.var (.agg #[.int .i64 (r:Int),.slice p (r*r) c]),24)::(D2++M)) ?_ pgs
  try refine Qb ?_
  exact Qg (E':=[(6,.int .i64 ((i:Int)+1)),(5,.slice P2 (i+1) C2),(2,.pointer (some ⟨b2,0,none⟩)),(1,.int .i64 (n:Int))]) (m:=n - (i+1)) ⟨rfl,rfl,rfl,rfl,trivial⟩ (by omega) ⟨i+1,P2,C2,_,D2,by omega,hr2,JV hrow.len.1 (hel.up KeptC.out uc) ⟨_,_,_,rfl,h3⟩,rfl,uc,rfl,rfl⟩
 ·obtain rfl:n=i:=by omega
  try refine Qb ?_
  exact Qe D sym rfl (.cons (.tmp rfl) .nil) uc sb (.inl rfl) ⟨⟨_,_,us,rfl,hrow,hel⟩,uc⟩
theorem QdB {r k:Nat} {f:Nat→Int}:(La.det k fun i j=>((f (i*r+j):Int):Rat))=((Lr.det k (fun i j=>f (i*r+j)):Int):Rat):=by
 have h:=Fq.hom_q.det k fun i j=>f (i*r+j)
 rw [Lr.det_la] at h
 exact h.symm
theorem Ve {r:Int} {N c:Nat} {p:Option Addr} {vs:List Value} {f:Nat→Int} (rw1:RowAt U [] 1 p N vs) (el:El Vz U vs f) (hc:N≤c) (hN:N≤9223372036854775807) :
  Ct Tryz.prog 13 [.agg #[.int .i64 r,.slice p N c]] G U M fun v U' D=>v = .int .i64 (chk r N f)∧ULe U U'∧D=[]:=by
 refine Qh Tryz.func13 rfl rfl rfl rfl ?_
 repeat (first|refine Qc ?_|refine Qa fun _=>?_|refine w_al fun _=>?_)
 rename_i b1
 refine Qw rfl rfl (fun h1=>?_) (fun h1=>?_)
 ·repeat (first|refine Qc ?_|refine Qa fun _=>?_|refine w_al fun _=>?_)
  exact Qe [] sym rfl (.cons (.tmp rfl) .nil) uc sb (.inl rfl) ⟨by unfold chk; rw [if_pos (.inl h1)]; rfl,uc,rfl⟩
 repeat (first|refine Qc ?_|refine Qa fun _=>?_|refine w_al fun _=>?_)
 refine Qi rfl (fun h2=>?_) (fun h2=>?_)
 ·repeat (first|refine Qc ?_|refine Qa fun _=>?_|refine w_al fun _=>?_)
  exact Qe [] sym rfl (.cons (.tmp rfl) .nil) uc sb (.inl rfl) ⟨by unfold chk; rw [if_pos (.inr h2)]; rfl,uc,rfl⟩
 obtain ⟨n,rfl⟩:∃ n:Nat,r=(n:Int):=⟨r.toNat,by omega⟩
 have hnn:n*n≤8*8:=Nat.mul_le_mul (by omega) (by omega)
 have hni:(n:Int)*(n:Int)=((n*n:Nat):Int):=(Int.natCast_mul n n).symm
 have hc1:chk (n:Int) N f=if (N:Int)≠(n:Int)*(n:Int) then 4 else if ¬ (∀ k,k < N → -1000≤f k∧f k≤1000) then 2 else if ¬ Evn n f then 3 else if ¬ Pdm n f then 27 else 0:=by
  unfold chk
  rw [if_neg (by omega),Int.toNat_natCast]
 rw [hc1]
 clear hc1
 repeat (first|refine Qc ?_|refine Qa fun _=>?_|refine w_al fun _=>?_)
 refine QK rfl (fun h3=>?_) (fun h3=>?_)
 ·repeat (first|refine Qc ?_|refine Qa fun _=>?_|refine w_al fun _=>?_)
  exact Qe [] sym rfl (.cons (.tmp rfl) .nil) uc sb (.inl rfl) ⟨by rw [if_pos h3]; rfl,uc,rfl⟩
 rw [if_neg (fun h=>h h3)]
 obtain rfl:N=n*n:=by omega
 repeat (first|refine Qc ?_|refine Qa fun _=>?_|refine w_al fun _=>?_)
 generalize hNe:n*n=N at *
 try refine Qu (M':=(b1,.var (.agg #[.int .i64 (n:Int),.slice p N c]),24)::M) (ULe.refl _) sbk ?_
 refine Ql (fun z E U' M'=>∃ (i:Nat),i≤N∧(∀ k,k < i → -1000≤f k∧f k≤1000)∧U=U'∧E=[(3,.int .i64 (i:Int)),(1,.pointer (some ⟨b1,0,none⟩))]∧ULe U U'∧M'=(b1,.var (.agg #[.int .i64 (n:Int),.slice p N c]),24)::M∧z=N - i) (n0:=N - 0) (E0:=[(3,.int .i64 ((0:Nat):Int)),(1,.pointer (some ⟨b1,0,none⟩))]) ⟨rfl,rfl,trivial⟩ ⟨0,by omega,(fun k h=>absurd h (Nat.not_lt_zero k)),rfl,rfl,uc,rfl,rfl⟩ ?_
 rintro z E U1 M' ⟨i,hi,hall,rfl,rfl,hU1,rfl,rfl⟩
 try refine Qb ?_
 refine Qi rfl (fun h=>?_) (fun h=>?_)
 ·have hin:i < N:=by omega
  obtain ⟨v1,hv1⟩:=rw1.at hin
  obtain ⟨rfl,hz⟩:=el _ _ hv1
  repeat (first|refine Qc ?_|refine Qa fun _=>?_|refine w_al fun _=>?_)
  refine sl_y (Qf sym rfl rfl rfl rfl rfl rfl ((rw1.up uc sb).lt hv1) ((rw1.up uc sb).get _ _ hv1).1) rfl rfl rfl rfl ?_; refine sl_y (Qk sym rfl rfl rfl rfl (rw1.up uc sb) hv1 rfl) rfl rfl rfl rfl ?_
  repeat (first|refine Qc ?_|refine Qa fun _=>?_|refine w_al fun _=>?_)
  refine Qw rfl rfl (fun h4=>?_) (fun h4=>?_)
  ·repeat (first|refine Qc ?_|refine Qa fun _=>?_|refine w_al fun _=>?_)
   exact Qe [] sym rfl (.cons (.tmp rfl) .nil) uc sb (.inl rfl) ⟨by rw [if_pos (fun h=>by have:=h i hin; omega)]; rfl,uc,rfl⟩
  repeat (first|refine Qc ?_|refine Qa fun _=>?_|refine w_al fun _=>?_)
  refine sl_y (Qf sym rfl rfl rfl rfl rfl rfl ((rw1.up uc sb).lt hv1) ((rw1.up uc sb).get _ _ hv1).1) rfl rfl rfl rfl ?_; refine sl_y (Qk sym rfl rfl rfl rfl (rw1.up uc sb) hv1 rfl) rfl rfl rfl rfl ?_
  repeat (first|refine Qc ?_|refine Qa fun _=>?_|refine w_al fun _=>?_)
  refine Qi rfl (fun h5=>?_) (fun h5=>?_)
  ·repeat (first|refine Qc ?_|refine Qa fun _=>?_|refine w_al fun _=>?_)
   exact Qe [] sym rfl (.cons (.tmp rfl) .nil) uc sb (.inl rfl) ⟨by rw [if_pos (fun h=>by have:=h i hin; omega)]; rfl,uc,rfl⟩
  repeat (first|refine Qc ?_|refine Qa fun _=>?_|refine w_al fun _=>?_)
  exact Qg (E':=[(3,.int .i64 ((i:Int)+1)),(1,.pointer (some ⟨b1,0,none⟩))]) (m:=N - (i+1)) ⟨rfl,rfl,trivial⟩ (by omega) ⟨i+1,by omega,(fun k hk=>by
   rcases Nat.lt_or_eq_of_le (Nat.le_of_lt_succ hk) with h5 | h5
   ·exact hall k h5
   ·rw [h5]; omega),rfl,rfl,uc,rfl,rfl⟩
 obtain rfl:N=i:=by omega
 rw [if_neg (fun h=>h hall)]
 repeat (first|refine Qc ?_|refine Qa fun _=>?_|refine w_al fun _=>?_)
 clear h hi
 try refine Qu (M':=(b1,.var (.agg #[.int .i64 (n:Int),.slice p N c]),24)::M) (ULe.refl _) sbk ?_
 refine Ql (fun z E U' M'=>∃ (i:Nat),i≤n∧(∀ a,a < i→(∀ k,k < n→f (a*n+k)=f (k*n+a))∧(f (a*n+a)).tmod 2=0)∧U=U'∧E=[(4,.int .i64 (i:Int)),(1,.pointer (some ⟨b1,0,none⟩))]∧ULe U U'∧M'=(b1,.var (.agg #[.int .i64 (n:Int),.slice p N c]),24)::M∧z=n - i) (n0:=n - 0) (E0:=[(4,.int .i64 ((0:Nat):Int)),(1,.pointer (some ⟨b1,0,none⟩))]) ⟨rfl,rfl,trivial⟩ ⟨0,by omega,(fun a h=>absurd h (Nat.not_lt_zero a)),rfl,rfl,uc,rfl,rfl⟩ ?_
 rintro z E U1 M' ⟨i,hi,hev,rfl,rfl,hU1,rfl,rfl⟩
 try refine Qb ?_
 refine Qi rfl (fun h=>?_) (fun h=>?_)
 ·have hin:i < n:=by omega
  repeat (first|refine Qc ?_|refine Qa fun _=>?_|refine w_al fun _=>?_)
  try refine Qu (M':=(b1,.var (.agg #[.int .i64 (n:Int),.slice p N c]),24)::M) (ULe.refl _) sbk ?_
  refine Ql (fun z E U' M'=>∃ (k:Nat),k≤n∧(∀ a,a < k→f (i*n+a)=f (a*n+i))∧(i < k→(f (i*n+i)).tmod 2=0)∧U=U'∧E=[(5,.int .i64 (k:Int)),(4,.int .i64 (i:Int)),(1,.pointer (some ⟨b1,0,none⟩))]∧ULe U U'∧M'=(b1,.var (.agg #[.int .i64 (n:Int),.slice p N c]),24)::M∧z=n - k) (n0:=n - 0) (E0:=[(5,.int .i64 ((0:Nat):Int)),(4,.int .i64 (i:Int)),(1,.pointer (some ⟨b1,0,none⟩))]) ⟨rfl,rfl,rfl,trivial⟩ ⟨0,by omega,(fun a h=>absurd h (Nat.not_lt_zero a)),(fun h=>absurd h (Nat.not_lt_zero _)),rfl,rfl,uc,rfl,rfl⟩ ?_
  rintro z E U3 M' ⟨k,hk,hsym,hpar,rfl,rfl,hU3,rfl,rfl⟩
  try refine Qb ?_
  refine Qi rfl (fun h4=>?_) (fun h4=>?_)
  ·have hkn:k < n:=by omega
   have l1:=Ym hin hkn
   have l2:=Ym hkn hin
   have l3:=Ym hin hin
   rw [hNe] at l1 l2 l3
   obtain ⟨v1,hv1⟩:=rw1.at l1
   obtain ⟨v2,hv2⟩:=rw1.at l2
   obtain ⟨v3,hv3⟩:=rw1.at l3
   obtain ⟨rfl,hz1⟩:=el _ _ hv1
   obtain ⟨rfl,hz2⟩:=el _ _ hv2
   obtain ⟨rfl,hz3⟩:=el _ _ hv3
   have e1:(i:Int)*(n:Int)=((i*n:Nat):Int):=(Int.natCast_mul i n).symm
   have e2:(k:Int)*(n:Int)=((k*n:Nat):Int):=(Int.natCast_mul k n).symm
   repeat (first|refine Qc ?_|refine Qa fun _=>?_|refine w_al fun _=>?_)
   refine Qx [24,25,34,35,36,37,38,39] [0,1,2,3,4,5,6,7,8,9,10,11,12,13,14,15,16,17,18,19,20,21,22,23,24,25,26,27,28,29,30,31,32,33,34,35,36,37,38,39] sym (by kernel_rfl) ?_
   repeat (first|refine Qc ?_|refine Qa fun _=>?_|refine w_al fun _=>?_)
   refine sl_y (Qf sym rfl rfl rfl rfl rfl ( (show _=((i*n+k:Nat):Int) by omega)) ((rw1.up uc sb).lt hv1) ((rw1.up uc sb).get _ _ hv1).1) rfl rfl rfl rfl ?_; refine sl_y (Qk sym rfl rfl rfl rfl (rw1.up uc sb) hv1 rfl) rfl rfl rfl rfl ?_
   repeat (first|refine Qc ?_|refine Qa fun _=>?_|refine w_al fun _=>?_)
   refine sl_y (Qf sym rfl rfl rfl rfl rfl ( (show _=((k*n+i:Nat):Int) by omega)) ((rw1.up uc sb).lt hv2) ((rw1.up uc sb).get _ _ hv2).1) rfl rfl rfl rfl ?_; refine sl_y (Qk sym rfl rfl rfl rfl (rw1.up uc sb) hv2 rfl) rfl rfl rfl rfl ?_
   repeat (first|refine Qc ?_|refine Qa fun _=>?_|refine w_al fun _=>?_)
   refine Qw rfl rfl (fun h5=>?_) (fun h5=>?_)
   ·repeat (first|refine Qc ?_|refine Qa fun _=>?_|refine w_al fun _=>?_)
    exact Qe [] sym rfl (.cons (.tmp rfl) .nil) uc sb (.inl rfl) ⟨by rw [if_pos fun h=>h5 ((h i hin).1 k hkn)]; rfl,uc,rfl⟩
   have h5:f (i*n+k)=f (k*n+i):=Classical.not_not.1 h5
   repeat (first|refine Qc ?_|refine Qa fun _=>?_|refine w_al fun _=>?_)
   refine Qw rfl rfl (fun h6=>?_) (fun h6=>?_)
   ·obtain rfl:i=k:=by omega
    repeat (first|refine Qc ?_|refine Qa fun _=>?_|refine w_al fun _=>?_)
    refine sl_y (Qf sym rfl rfl rfl rfl rfl ( (show _=((i*n+i:Nat):Int) by omega)) ((rw1.up uc sb).lt hv3) ((rw1.up uc sb).get _ _ hv3).1) rfl rfl rfl rfl ?_; refine sl_y (Qk sym rfl rfl rfl rfl (rw1.up uc sb) hv3 rfl) rfl rfl rfl rfl ?_
    repeat (first|refine Qc ?_|refine Qa fun _=>?_|refine w_al fun _=>?_)
    refine QK rfl (fun h7=>?_) (fun h7=>?_)
    ·repeat (first|refine Qc ?_|refine Qa fun _=>?_|refine w_al fun _=>?_)
     exact Qe [] sym rfl (.cons (.tmp rfl) .nil) uc sb (.inl rfl) ⟨by rw [if_pos fun h=>h7 (h i hin).2]; rfl,uc,rfl⟩
    ·repeat (first|refine Qc ?_|refine Qa fun _=>?_|refine w_al fun _=>?_)
     exact Qg (E':=[(5,.int .i64 ((i:Int)+1)),(4,.int .i64 (i:Int)),(1,.pointer (some ⟨b1,0,none⟩))]) (m:=n - (i+1)) ⟨rfl,rfl,rfl,trivial⟩ (by omega) ⟨i+1,by omega,(fun a ha=>by
      rcases Nat.lt_or_eq_of_le (Nat.le_of_lt_succ ha) with h8 | h8
      ·exact hsym a h8
      ·rw [h8]),(fun _=>h7),rfl,rfl,uc,rfl,rfl⟩
   ·repeat (first|refine Qc ?_|refine Qa fun _=>?_|refine w_al fun _=>?_)
    exact Qg (E':=[(5,.int .i64 ((k:Int)+1)),(4,.int .i64 (i:Int)),(1,.pointer (some ⟨b1,0,none⟩))]) (m:=n - (k+1)) ⟨rfl,rfl,rfl,trivial⟩ (by omega) ⟨k+1,by omega,(fun a ha=>by
     rcases Nat.lt_or_eq_of_le (Nat.le_of_lt_succ ha) with h8 | h8
     ·exact hsym a h8
     ·rw [h8]; exact h5),(fun h=>hpar (by omega)),rfl,rfl,uc,rfl,rfl⟩
  ·obtain rfl:n=k:=by omega
   repeat (first|refine Qc ?_|refine Qa fun _=>?_|refine w_al fun _=>?_)
   exact Qg (E':=[(4,.int .i64 ((i:Int)+1)),(1,.pointer (some ⟨b1,0,none⟩))]) (m:=n - (i+1)) ⟨rfl,rfl,trivial⟩ (by omega) ⟨i+1,by omega,(fun a ha=>by
    rcases Nat.lt_or_eq_of_le (Nat.le_of_lt_succ ha) with h6 | h6
    ·exact hev a h6
    ·rw [h6]; exact ⟨hsym,hpar hin⟩),rfl,rfl,uc,rfl,rfl⟩
 obtain rfl:n=i:=by omega
 have hev':Evn n f:=hev
 rw [if_neg (fun h=>h hev')]
 clear h hi
 repeat (first|refine Qc ?_|refine Qa fun _=>?_|refine w_al fun _=>?_)
 try refine Qu (M':=(b1,.var (.agg #[.int .i64 (n:Int),.slice p N c]),24)::M) (ULe.refl _) sbk ?_
 refine Ql (fun z E U' M'=>∃ (m:Nat),1≤m∧m≤n+1∧(∀ k,1≤k→k < m→0 < Lr.det k (fun i j=>f (i*n+j)))∧E=[(6,.int .i64 (m:Int)),(1,.pointer (some ⟨b1,0,none⟩))]∧ULe U U'∧M'=(b1,.var (.agg #[.int .i64 (n:Int),.slice p N c]),24)::M∧z=n+1 - m) (n0:=n+1 - 1) (E0:=[(6,.int .i64 ((1:Nat):Int)),(1,.pointer (some ⟨b1,0,none⟩))]) ⟨rfl,rfl,trivial⟩ ⟨1,Nat.le_refl 1,by omega,(fun k h1 h2=>absurd h1 (by omega)),rfl,uc,rfl,rfl⟩ ?_
 rintro z E U1 M' ⟨m,hm1,hmn,hpos,rfl,hU1,rfl,rfl⟩
 try refine Qb ?_
 refine Qi rfl (fun h=>?_) (fun h=>?_)
 ·have hmn':m≤n:=by omega
  repeat (first|refine Qc ?_|refine Qa fun _=>?_|refine w_al fun _=>?_)
  refine Qd rfl rfl rfl rfl rfl rfl (fun _=>yQ (r:=n) (n:=m) (rw1.up uc (List.nil_sublist _)) (el.up KeptC.out uc) hNe.symm (by omega) hmn' hc) ?_
  rintro v5 U5 D5 hU5 ⟨h5,rfl⟩
  try rw [List.nil_append]
  repeat (first|refine Qc ?_|refine Qa fun _=>?_|refine w_al fun _=>?_)
  obtain ⟨q5,c5,us5,rfl,-⟩:=id h5
  refine Qd rfl rfl rfl rfl rfl rfl (fun _=>qJ (n:=m) h5 (fun i j hi hj=>by have h6:=hall (i*n+j) (by have:=Ym (show i < n by omega) (show j < n by omega); omega); unfold Sz; omega) (by omega)) ?_
  rintro v6 U6 D6 hU6 ⟨x6,rfl,h6,rfl⟩
  try rw [List.nil_append]
  have hs6:Sz (Lr.det m fun i j=>f (i*n+j)) 3:=by
   have e3:(3000 ^ 8:Nat) < 4294967296 ^ 3:=by decide
   exact Nat.lt_of_le_of_lt (La.det_bd (by omega) fun i j hi hj=>hall (i*n+j) (by have:=Ym (show i < n by omega) (show j < n by omega); omega)) e3
  refine Qd rfl rfl rfl rfl rfl rfl (fun _=>YU (h6.rep.up uc (List.nil_sublist _)) (h6.le hs6 (by decide))) ?_
  rintro v U' D hU ⟨rfl,rfl,rfl⟩
  repeat (first|refine Qc ?_|refine Qa fun _=>?_|refine w_al fun _=>?_)
  refine Qi rfl (fun h7=>?_) (fun h7=>?_)
  ·have h8:¬ Pdm n f:=fun hp=>by
    have h9:=hp m hm1 hmn'
    rw [QdB] at h9
    have h10:0 < Lr.det m (fun i j=>f (i*n+j)):=Rat.intCast_lt_intCast.1 h9
    have:=Int.sign_eq_one_of_pos h10
    omega
   repeat (first|refine Qc ?_|refine Qa fun _=>?_|refine w_al fun _=>?_)
   exact Qe [] sym rfl (.cons (.tmp rfl) .nil) uc sb (.inl rfl) ⟨by rw [if_pos h8]; rfl,uc,rfl⟩
  ·have h8:0 < Lr.det m (fun i j=>f (i*n+j)):=by
    refine Int.not_le.1 fun h9=>h7 ?_
    rcases Int.lt_or_eq_of_le h9 with h10 | h10
    ·rw [Int.sign_eq_neg_one_of_neg h10]; decide
    ·rw [h10]; decide
   repeat (first|refine Qc ?_|refine Qa fun _=>?_|refine w_al fun _=>?_)
   exact Qg (E':=[(6,.int .i64 ((m:Int)+1)),(1,.pointer (some ⟨b1,0,none⟩))]) (m:=n+1 - (m+1)) ⟨rfl,rfl,trivial⟩ (by omega) ⟨m+1,by omega,by omega,(fun k h9 h10=>by
    rcases Nat.lt_or_eq_of_le (Nat.le_of_lt_succ h10) with h11 | h11
    ·exact hpos k h9 h11
    ·rw [h11]; exact h8),rfl,uc,rfl,rfl⟩
 ·have hp:Pdm n f:=fun k h1 h2=>by
   rw [QdB]
   exact Rat.intCast_lt_intCast.2 (hpos k h1 (by omega))
  repeat (first|refine Qc ?_|refine Qa fun _=>?_|refine w_al fun _=>?_)
  exact Qe [] sym rfl (.cons (.tmp rfl) .nil) uc sb (.inl rfl) ⟨by rw [if_neg (fun h=>h hp)]; rfl,uc,rfl⟩
end Go.Proofs.YthnnlgjlhnmhnaaGreat

/- Walks of layer 36's reference: minor, Inverse. -/
namespace Go.Proofs.YthnnlgjlhnmhnaaGreat
open Go.Hp
variable {G:World} {U U':UH} {M:MH}
theorem QhB {K:Kont} {N:Nat} {e:Exit} {E:Env} {D M:MH} (h:∀ U',ULe U U'→Sett U U' D→SK K N G e E U' M):SK K N G e E U (D++M) :=
 ⟨fun a w ha hw=>by
  obtain ⟨U',h1,h2,h3⟩:=Yx hw
  exact (h U' h1 h3).run a w ha h2⟩
theorem Qbs {n r c:Nat} {v:Value} {A:Nat→Nat→Int} (h:Ls (Zr n) 1 n U [] v A) (hr:r < n) (hc:c < n) (hn:n≤8) :
  Ct Tryz.prog 64 [v,.int .i64 (r:Int),.int .i64 (c:Int)] G U M fun v U' D=>Ls (Zr (n - 1)) 1 (n - 1) U' [] v (fun i j=>A (La.skip r i) (La.skip c j))∧D=[]:=by
 refine Ct.setl (e:=TJs) ?_ KeptC.out
 obtain ⟨p,cin,ins,rfl,hcin,rin,ein⟩:=h
 refine Qh Tryz.func64 rfl rfl rfl rfl ?_
 repeat (first|refine Qc ?_|refine Qa fun _=>?_|refine w_al fun _=>?_)
 try refine Qu (M':=([])++M) (ULe.refl _) sbk ?_
 refine Ql (fun z E U' M'=>∃ (i m:Nat) (Q:Option Addr) (C:Nat) (svs:List Value) (Do:MH),i≤n∧m=(if i≤r then i else i - 1)∧RowO TJs 1 Do Q m C svs∧El (Zr (n - 1)) U' svs (fun i j=>A (La.skip r i) (La.skip c j))∧E=[(8,.int .i64 (i:Int)),(7,.slice Q m C),(0,.slice p n cin),(1,.int .i64 (r:Int)),(2,.int .i64 (c:Int))]∧ULe U U'∧M'=Do++M∧z=n - i) (n0:=n - 0) (E0:=[(8,.int .i64 ((0:Nat):Int)),(7,.slice none 0 0),(0,.slice p n cin),(1,.int .i64 (r:Int)),(2,.int .i64 (c:Int))]) ⟨rfl,rfl,rfl,rfl,rfl,trivial⟩ ⟨0,0,none,0,[],[],by omega,by rw [if_pos (Nat.zero_le r)],RowO.nil,El.nil,rfl,uc,rfl,rfl⟩ ?_
 rintro z E U1 M' ⟨i,m,Q,C,svs,Do,hi,hm,hrow,hel,rfl,hU1,rfl,rfl⟩
 try refine Qb ?_
 refine Qi rfl (fun h=>?_) (fun h=>?_)
 ·have hin:i < n:=by omega
  try refine Qb ?_
  refine JQ rfl (fun h1=>?_) (fun h1=>?_)
  ·have hir:i=r:=by omega
   try refine Qb ?_
   exact Qg (E':=[(8,.int .i64 ((i:Int)+1)),(7,.slice Q m C),(0,.slice p n cin),(1,.int .i64 (r:Int)),(2,.int .i64 (c:Int))]) (m:=n - (i+1)) ⟨rfl,rfl,rfl,rfl,rfl,trivial⟩ (by omega) ⟨i+1,m,Q,C,svs,Do,by omega,by rw [hm,if_pos (by omega),if_neg (by omega)]; omega,hrow,hel,rfl,uc,rfl,rfl⟩
  ·have hir:i≠r:=by omega
   have hsk:La.skip r m=i:=by
    unfold La.skip
    rw [hm]
    split<;>split<;>omega
   obtain ⟨v1,hv1⟩:=rin.at hin
   obtain ⟨q1,c1,us1,rfl,hc1,r1,e1⟩:=ein _ _ hv1
   try refine Qb ?_
   try refine Qu (M':=([])++(Do++M)) (ULe.refl _) sbk ?_
   refine Ql (fun z E U' M'=>∃ (k j:Nat) (q:Option Addr) (c':Nat) (us:List Value) (Dr:MH),k≤n∧j=(if k≤c then k else k - 1)∧RowO TJ 2 Dr q j c' us∧El Zn U' us (fun t=>A i (La.skip c t))∧E=[(10,.int .i64 (k:Int)),(9,.slice q j c'),(8,.int .i64 (i:Int)),(7,.slice Q m C),(0,.slice p n cin),(1,.int .i64 (r:Int)),(2,.int .i64 (c:Int))]∧ULe U1 U'∧M'=Dr++(Do++M)∧z=n - k) (n0:=n - 0) (E0:=[(10,.int .i64 ((0:Nat):Int)),(9,.slice none 0 0),(8,.int .i64 (i:Int)),(7,.slice Q m C),(0,.slice p n cin),(1,.int .i64 (r:Int)),(2,.int .i64 (c:Int))]) ⟨rfl,rfl,rfl,rfl,rfl,rfl,rfl,trivial⟩ ⟨0,0,none,0,[],[],by omega,by rw [if_pos (Nat.zero_le c)],RowO.nil,El.nil,rfl,uc,rfl,rfl⟩ ?_
   rintro z E U2 M' ⟨k,j,q,c',us,Dr,hk,hj,hrow2,hel2,rfl,hU2,rfl,rfl⟩
   try refine Qb ?_
   refine Qi rfl (fun h2=>?_) (fun h2=>?_)
   ·have hkn:k < n:=by omega
    try refine Qb ?_
    refine QK rfl (fun h3=>?_) (fun h3=>?_)
    ·have hjk:j≤k:=by rw [hj]; split<;>omega
     have hsk2:La.skip c j=k:=by
      unfold La.skip
      rw [hj]
      split<;>split<;>omega
     obtain ⟨v2,hv2⟩:=r1.at hkn
     obtain ⟨x2,rfl,hx2⟩:=e1 _ _ hv2
     try refine Qb ?_
     refine sl_y (Qf sym rfl rfl rfl rfl rfl rfl ((rin.up uc sb).lt hv1) ((rin.up uc sb).get _ _ hv1).1) rfl rfl rfl rfl ?_; refine sl_y (Qk sym rfl rfl rfl rfl (rin.up uc sb) hv1 rfl) rfl rfl rfl rfl ?_
     try refine Qb ?_
     refine sl_y (Qf sym rfl rfl rfl rfl rfl rfl ((r1.up uc sb).lt hv2) ((r1.up uc sb).get _ _ hv2).1) rfl rfl rfl rfl ?_; refine sl_y (Qp sym rfl rfl rfl rfl rfl (r1.up uc sb) hv2) rfl rfl rfl rfl ?_
     try refine Qb ?_
     refine Ye hrow2 (X:=Do++M) (List.Perm.refl _) (fun b q2 c2 D2 hr2=>?_)
     try refine Qb ?_
     exact Qg (E':=[(10,.int .i64 ((k:Int)+1)),(9,.slice q2 (j+1) c2),(8,.int .i64 (i:Int)),(7,.slice Q m C),(0,.slice p n cin),(1,.int .i64 (r:Int)),(2,.int .i64 (c:Int))]) (m:=n - (k+1)) ⟨rfl,rfl,rfl,rfl,rfl,rfl,rfl,trivial⟩ (by omega) ⟨k+1,j+1,q2,c2,_,D2,by omega,by rw [hj]; split<;>split<;>omega,hr2,JV hrow2.len.1 hel2 ⟨x2,rfl,by rw [hsk2]; exact hx2.up uc (List.Sublist.refl _)⟩,rfl,uc,rfl,rfl⟩
    ·have hkc:k=c:=by omega
     try refine Qb ?_
     exact Qg (E':=[(10,.int .i64 ((k:Int)+1)),(9,.slice q j c'),(8,.int .i64 (i:Int)),(7,.slice Q m C),(0,.slice p n cin),(1,.int .i64 (r:Int)),(2,.int .i64 (c:Int))]) (m:=n - (k+1)) ⟨rfl,rfl,rfl,rfl,rfl,rfl,rfl,trivial⟩ (by omega) ⟨k+1,j,q,c',us,Dr,by omega,by rw [hj,if_pos (by omega),if_neg (by omega)]; omega,hrow2,hel2,rfl,uc,rfl,rfl⟩
   ·have hjn:j=n - 1:=by rw [hj,if_neg (by omega)]; omega
    subst hjn
    have hmi:m≤i:=by rw [hm]; split<;>omega
    try refine Qb ?_
    refine Ye hrow (X:=Dr++M) pgj (fun b2 P2 C2 D2 hr2=>?_)
    try refine Qb ?_
    refine Jw (M':=Dr++(D2++M)) pgj ?_
    refine QhB fun U4 hU4 hs4=>?_
    exact Qg (E':=[(8,.int .i64 ((i:Int)+1)),(7,.slice P2 (m+1) C2),(0,.slice p n cin),(1,.int .i64 (r:Int)),(2,.int .i64 (c:Int))]) (m:=n - (i+1)) ⟨rfl,rfl,rfl,rfl,rfl,trivial⟩ (by omega) ⟨i+1,m+1,P2,C2,_,D2,by omega,by rw [hm]; split<;>split<;>omega,hr2,JV hrow.len.1 (hel.up KeptC.out uc) ⟨q,c',us,rfl,hrow2.len.2.1,hrow2.sett hs4,by rw [hsk]; exact hel2.up KeptC.out uc⟩,rfl,uc,rfl,rfl⟩
 ·have hmn:m=n - 1:=by rw [hm,if_neg (by omega)]; omega
  subst hmn
  try refine Qb ?_
  exact Qe Do sym rfl (.cons (.tmp rfl) .nil) uc sb (.inl rfl) ⟨⟨Q,C,svs,rfl,hrow,hel⟩,uc⟩
theorem Qeb {n i k:Nat} {f:Nat→Int} {X:Nat→Nat→Rat} (hI:Inv n f X) (he:Evn n f) (hp:Pdm n f) (h1n:1≤n) (hi:i < n) (hk:k < n) :
  X i k=Rat.divInt (if (i+k) % 2=1 then -(Lr.det (n - 1) fun s t=>f (La.skip i s*n+La.skip k t)) else Lr.det (n - 1) fun s t=>f (La.skip i s*n+La.skip k t)) (Lr.det n (gz n f)):=by
 obtain ⟨m,rfl⟩:∃ m,n=m+1:=⟨n - 1,by omega⟩
 have hd:=(Vf he hp).2.2 h1n
 have h1:=hI.adj i k hi hk
 rw [Lr.adj_minor hi hk] at h1
 have h2:(Lr.det m fun a b=>gz (m+1) f (La.skip k a) (La.skip i b))=Lr.det m fun s t=>f (La.skip i s*(m+1)+La.skip k t):=by
  rw [← Lr.det_tr]
  exact Lr.det_congr fun a b ha hb=>by
   show f (La.skip k b*(m+1)+La.skip i a)=_
   exact ((he _ (La.skip_lt hb)).1 _ (La.skip_lt ha))
 rw [h2,Lr.sgn_two] at h1
 have hd0:((Lr.det (m+1) (gz (m+1) f):Int):Rat)≠0:=fun e=>by
  have:=Rat.intCast_inj.1 (e.trans (show (0:Rat)=((0:Int):Rat) from rfl))
  omega
 rw [Rat.divInt_eq_div,show m+1 - 1=m from rfl,← h1,Rat.mul_comm,Rat.div_def,Rat.mul_assoc,Rat.mul_inv_cancel _ hd0,Rat.mul_one]
theorem qW {n c i k:Nat} {p:Option Addr} {vs:List Value} {f:Nat→Int} {X:Nat→Nat→Rat} (rw1:RowAt U [] 1 p (n*n) vs) (el:El Vz U vs f) (hb:∀ k,k < n*n → -1000≤f k∧f k≤1000) (he:Evn n f) (hp:Pdm n f) (h1n:1≤n) (hn:n≤8) (hc:n*n≤c) (hi:i < n) (hk:k < n) (hI:Inv n f X) :
  Ct Tryz.prog 30 [.agg #[.int .i64 (n:Int),.slice p (n*n) c],.int .i64 (i:Int),.int .i64 (k:Int)] G U M fun v U' D=>∃ x:QV,v=x.v∧x.nrm U' [] (X i k)∧D=[]:=by
 have hX:=Qeb hI he hp h1n hi hk
 have hd:=(Vf he hp).2.2 h1n
 have e3:(3000 ^ 8:Nat) < 4294967296 ^ 3:=by decide
 have hbb:∀ s t,s < n→t < n → -1000≤f (s*n+t)∧f (s*n+t)≤1000:=fun s t hs ht=>hb _ (Ym hs ht)
 have sk:∀ {j s:Nat},s < n - 1→La.skip j s < n:=fun {j s} hs=>by unfold La.skip; split<;>omega
 have hsm:Sz (Lr.det (n - 1) fun s t=>f (La.skip i s*n+La.skip k t)) 3:=Nat.lt_of_le_of_lt (La.det_bd (by omega) fun s t hs ht=>hbb _ _ (sk hs) (sk ht)) e3
 have hsd:Sz (Lr.det n (gz n f)) 3:=Nat.lt_of_le_of_lt (La.det_bd hn hbb) e3
 obtain ⟨y,hy⟩:∃ y,y=Lr.det (n - 1) fun s t=>f (La.skip i s*n+La.skip k t):=⟨_,rfl⟩
 rw [← hy] at hX hsm
 refine Qh Tryz.func30 rfl rfl rfl rfl ?_
 repeat (first|refine Qc ?_|refine Qa fun _=>?_|refine w_al fun _=>?_)
 rename_i b3 b6
 refine Qd rfl rfl rfl rfl rfl rfl (fun _=>yQ (r:=n) (n:=n) (rw1.up uc (List.nil_sublist _)) (el.up KeptC.out uc) rfl hn (Nat.le_refl n) hc) ?_
 rintro v5 U5 D5 hU5 ⟨h5,rfl⟩
 try rw [List.nil_append]
 obtain ⟨q5,c5,us5,rfl,-⟩:=id h5
 repeat (first|refine Qc ?_|refine Qa fun _=>?_|refine w_al fun _=>?_)
 refine Qd rfl rfl rfl rfl rfl rfl (fun _=>Qbs (r:=i) (c:=k) (Ls.up h5 KeptC.out uc (List.Sublist.refl _)) hi hk hn) ?_
 rintro v6 U6 D6 hU6 ⟨h6,rfl⟩
 try rw [List.nil_append]
 obtain ⟨q6,c6,us6,rfl,-⟩:=id h6
 repeat (first|refine Qc ?_|refine Qa fun _=>?_|refine w_al fun _=>?_)
 refine Qd rfl rfl rfl rfl rfl rfl (fun _=>qJ (n:=n - 1) h6 (fun s t hs ht=>by have h6:=hbb _ _ (sk (j:=i) hs) (sk (j:=k) ht); unfold Sz; omega) (by omega)) ?_
 rintro v7 U7 D7 hU7 ⟨x7,rfl,h7,rfl⟩
 try rw [List.nil_append]
 rw [← hy] at h7
 repeat (first|refine Qc ?_|refine Qa fun _=>?_|refine w_al fun _=>?_)
 refine JQ rfl (fun h1=>?_) (fun h1=>?_)
 ·have h2:(i+k) % 2=1:=by
   have e:((i:Int)+(k:Int)).tmod 2=(((i+k) % 2:Nat):Int):=rfl
   omega
  rw [if_pos h2] at hX
  repeat (first|refine Qc ?_|refine Qa fun _=>?_|refine w_al fun _=>?_)
  refine Qd rfl rfl rfl rfl rfl rfl (fun _=>(yy (h7.rep.up uc (List.nil_sublist _)) (h7.le hsm (by decide))).settle) ?_
  rintro v Uh24 D hU ⟨rfl,_,_,⟨xh24,rfl,h24,-⟩,-,-,hs⟩
  replace h24:=h24.sett hs
  clear hs
  repeat (first|refine Qc ?_|refine Qa fun _=>?_|refine w_al fun _=>?_)
  repeat (first|refine Qc ?_|refine Qa fun _=>?_|refine w_al fun _=>?_)
  refine Qx [3,4] [0,1,2,3,4] sym (by kernel_rfl) ?_
  repeat (first|refine Qc ?_|refine Qa fun _=>?_|refine w_al fun _=>?_)
  refine Qd rfl rfl rfl rfl rfl rfl (fun _=>qJ (n:=n) (Ls.up h5 KeptC.out uc (List.Sublist.refl _)) (fun s t hs ht=>by have h6:=hbb s t hs ht; unfold Sz; omega) hn) ?_
  rintro v8 U8 D8 hU8 ⟨x8,rfl,h8,rfl⟩
  try rw [List.nil_append]
  repeat (first|refine Qc ?_|refine Qa fun _=>?_|refine w_al fun _=>?_)
  refine Qd rfl rfl rfl rfl rfl rfl (fun _=>VG (h24.rep.up uc (List.nil_sublist _)) (h24.le hsm.neg (by decide)) (h8.rep.up uc (List.nil_sublist _)) (h8.le hsd (by decide))) ?_
  rintro v Uh9 D hU ⟨xh9,rfl,h9,rfl⟩
  repeat (first|refine Qc ?_|refine Qa fun _=>?_|refine w_al fun _=>?_)
  rw [show (Lr.det n fun i j=>f (i*n+j))=Lr.det n (gz n f) from rfl,← hX] at h9
  exact Qe [] sym rfl (.cons (.cell 1 rfl rfl rfl) .nil) uc sb (.inl rfl) ⟨xh9,rfl,h9,rfl⟩
 ·have h2:¬ (i+k) % 2=1:=by
   have e:((i:Int)+(k:Int)).tmod 2=(((i+k) % 2:Nat):Int):=rfl
   omega
  rw [if_neg h2] at hX
  repeat (first|refine Qc ?_|refine Qa fun _=>?_|refine w_al fun _=>?_)
  refine Qx [3,4] [0,1,2,3,4] sym (by kernel_rfl) ?_
  repeat (first|refine Qc ?_|refine Qa fun _=>?_|refine w_al fun _=>?_)
  refine Qd rfl rfl rfl rfl rfl rfl (fun _=>qJ (n:=n) (Ls.up h5 KeptC.out uc (List.Sublist.refl _)) (fun s t hs ht=>by have h6:=hbb s t hs ht; unfold Sz; omega) hn) ?_
  rintro v8 U8 D8 hU8 ⟨x8,rfl,h8,rfl⟩
  try rw [List.nil_append]
  repeat (first|refine Qc ?_|refine Qa fun _=>?_|refine w_al fun _=>?_)
  refine Qd rfl rfl rfl rfl rfl rfl (fun _=>VG (h7.rep.up uc (List.nil_sublist _)) (h7.le hsm (by decide)) (h8.rep.up uc (List.nil_sublist _)) (h8.le hsd (by decide))) ?_
  rintro v Uh9 D hU ⟨xh9,rfl,h9,rfl⟩
  repeat (first|refine Qc ?_|refine Qa fun _=>?_|refine w_al fun _=>?_)
  rw [show (Lr.det n fun i j=>f (i*n+j))=Lr.det n (gz n f) from rfl,← hX] at h9
  exact Qe [] sym rfl (.cons (.cell 1 rfl rfl rfl) .nil) uc sb (.inl rfl) ⟨xh9,rfl,h9,rfl⟩
end Go.Proofs.YthnnlgjlhnmhnaaGreat

/- Walks of layer 36's reference: sides, Box; broad, wide. -/
namespace Go.Proofs.YthnnlgjlhnmhnaaGreat
open Go.Hp
variable {G:World} {U U':UH} {M:MH}
theorem Qea {x:IV} {z:Int} (hx:x.rep U M z) (hn:x.n≤1000) (h0:0≤z) :
  Ct Tryz.prog 72 [x.v] G U M fun v U' D=>∃ r:IV,v=r.v∧r.nrm U' [] ((Bx.isq z.natAbs:Nat):Int)∧D=[] :=
 (QfE (A:=z.natAbs) (by rwa [show ((z.natAbs:Nat):Int)=z by omega]) hn).settle.mono fun _ _ _ _ ⟨h1,_,_,⟨r,R,e,h2,g1,g2,_⟩,_,_,hs⟩=>⟨r,e,by rw [← Bx.isq_at g1 g2]; exact h2.sett hs,h1⟩
theorem QiS {B:Nat} {b:Nat→Nat}:∀ n,Bx.szl B b n≤B+1
 | 0=>by show 1≤B+1; omega
 | n+1=>Nat.min_le_right _ _
theorem yh {n m c:Nat} {p:Option Addr} {vs:List Value} {f:Nat→Int} {X:Nat→Nat→Rat} (rw1:RowAt U [] 1 p (n*n) vs) (el:El Vz U vs f) (hb:∀ k,k < n*n → -1000≤f k∧f k≤1000) (he:Evn n f) (hp:Pdm n f) (h1n:1≤n) (hn:n≤8) (hc:n*n≤c) (hm:m≤1000) (hI:Inv n f X) :
  Ct Tryz.prog 32 [.agg #[.int .i64 (n:Int),.slice p (n*n) c],.int .i64 (m:Int)] G U M fun v U' D=>∃ s,v = .tuple #[s,.int .i64 (Bx.szl 1048576 (bd X m) n:Int)]∧Ls Vz 1 n U' [] s (fun i=>((min (bd X m i) 1048576:Nat):Int))∧D=[]:=by
 refine Ct.mono (Ct.settle (R:=fun v U' D=>∃ s,v = .tuple #[s,.int .i64 (Bx.szl 1048576 (bd X m) n:Int)]∧Lo Vz TInt 1 n U' D s (fun i=>((min (bd X m i) 1048576:Nat):Int))) ?_) (fun _ _ _ _ ⟨h1,_,_,⟨s,h2,h3⟩,_,h5,h6⟩=>⟨s,h2,h3.sett KeptC.out h5 h6,h1⟩)
 refine Qh Tryz.func32 rfl rfl rfl rfl ?_
 repeat (first|refine Qc ?_|refine Qa fun _=>?_|refine w_al fun _=>?_)
 rename_i b2
 try refine Qu (M':=(b2,.var (.agg #[.int .i64 (n:Int),.slice p (n*n) c]),24)::(([])++M)) (ULe.refl _) sbk ?_
 refine Ql (fun z E U' M'=>∃ (i:Nat) (Q:Option Addr) (C:Nat) (us:List Value) (D:MH),i≤n∧RowO TInt 1 D Q i C us∧El Vz U' us (fun i=>((min (bd X m i) 1048576:Nat):Int))∧E=[(8,.int .i64 (i:Int)),(7,.int .i64 ((Bx.szl 1048576 (bd X m) i):Int)),(6,.slice Q i C),(2,.pointer (some ⟨b2,0,none⟩)),(1,.int .i64 (m:Int))]∧ULe U U'∧M'=(b2,.var (.agg #[.int .i64 (n:Int),.slice p (n*n) c]),24)::(D++M)∧z=n - i) (n0:=n - 0) (E0:=[(8,.int .i64 ((0:Nat):Int)),(7,.int .i64 ((Bx.szl 1048576 (bd X m) 0):Int)),(6,.slice none 0 0),(2,.pointer (some ⟨b2,0,none⟩)),(1,.int .i64 (m:Int))]) ⟨rfl,rfl,rfl,rfl,rfl,trivial⟩ ⟨0,none,0,[],[],by omega,RowO.nil,El.nil,rfl,uc,rfl,rfl⟩ ?_
 rintro z E U1 M' ⟨i,Q,C,us,D,hi,hrow,hel,rfl,hU1,rfl,rfl⟩
 try refine Qb ?_
 refine Qi rfl (fun h=>?_) (fun h=>?_)
 ·have hin:i < n:=by omega
  have hsx:=hI.sz i i hin hin
  have hpx:=hI.pos i hin
  have hsl := @QiS 1048576 (bd X m) i
  repeat (first|refine Qc ?_|refine Qa fun _=>?_|refine w_al fun _=>?_)
  refine Qx [6,7,8,9,10,14,15] [0,1,3,4,5,2,6,7,8,9,10,11,12,13,14,15] sym (by kernel_rfl) ?_
  repeat (first|refine Qc ?_|refine Qa fun _=>?_|refine w_al fun _=>?_)
  refine Qd rfl rfl rfl rfl rfl rfl (fun _=>(vO (z:=2*m) (by omega) (by omega)).settle) ?_
  rintro v Uh20 D hU ⟨rfl,_,_,⟨xh20,rfl,h20,-⟩,-,-,hs⟩
  replace h20:=h20.sett hs
  clear hs
  repeat (first|refine Qc ?_|refine Qa fun _=>?_|refine w_al fun _=>?_)
  have s20:Szq ((2*(m:Int):Int):Rat) 1:=Jx (by unfold Sz; omega) (by decide)
  refine Qd rfl rfl rfl rfl rfl rfl (fun _=>qW (rw1.up uc (List.nil_sublist _)) (el.up KeptC.out uc) hb he hp h1n hn hc hin hin hI) ?_
  rintro v Uh24 D hU ⟨xh24,rfl,h24,rfl⟩
  repeat (first|refine Qc ?_|refine Qa fun _=>?_|refine w_al fun _=>?_)
  refine Qd rfl rfl rfl rfl rfl rfl (fun _=>jD (h20.rep.up uc (List.nil_sublist _)) (h20.le s20 (by decide)) (h24.rep.up uc (List.nil_sublist _)) (h24.le hsx (by decide))) ?_
  rintro v Uh25 D hU ⟨xh25,rfl,h25,rfl⟩
  repeat (first|refine Qc ?_|refine Qa fun _=>?_|refine w_al fun _=>?_)
  have s25:=s20.mul hsx
  refine Qd rfl rfl rfl rfl rfl rfl (fun _=>QcA (h25.rep.up uc (List.nil_sublist _)) (h25.le s25 (by decide))) ?_
  rintro v Uh26 D hU ⟨xh26,rfl,h26,rfl⟩
  repeat (first|refine Qc ?_|refine Qa fun _=>?_|refine w_al fun _=>?_)
  have s26:=QbH s25
  have hfl:0≤(((2*(m:Int):Int):Rat)*X i i).floor:=Rat.le_floor_iff.2 (Rat.mul_nonneg (Rat.intCast_le_intCast.2 (show (0:Int)≤2*m by omega)) (Rat.le_of_lt hpx))
  refine Qd rfl rfl rfl rfl rfl rfl (fun _=>Qea (h26.rep.up uc (List.nil_sublist _)) (h26.le s26 (by decide)) hfl) ?_
  rintro v Uh27 D hU ⟨xh27,rfl,h27,rfl⟩
  repeat (first|refine Qc ?_|refine Qa fun _=>?_|refine w_al fun _=>?_)
  obtain ⟨B,hB⟩:∃ B,B=bd X m i:=⟨_,rfl⟩
  rw [show Bx.isq (((2*(m:Int):Int):Rat)*X i i).floor.natAbs=B from hB.symm] at h27
  have s27:Sz ((B:Nat):Int) 4:=by rw [hB]; exact Nat.lt_of_le_of_lt (by rw [Int.natAbs_natCast]; exact Bx.isq_le) s26
  refine Qd rfl rfl rfl rfl rfl rfl (fun _=>QeE (h27.rep.up uc (List.nil_sublist _)) (h27.le s27 (by decide))) ?_
  rintro v28 U28 D28 hU28 ⟨rfl,rfl,rfl⟩
  rw [List.nil_append]
  have hnx:Bx.szl 1048576 (bd X m) (i+1)=min (Bx.szl 1048576 (bd X m) i*(2*min B 1048576+1)) 1048577:=by rw [hB]; rfl
  have hmb:Bx.szl 1048576 (bd X m) i*(2*min B 1048576+1)≤1048577*2097153:=Nat.mul_le_mul hsl (by omega)
  have hmi:((Bx.szl 1048576 (bd X m) i:Nat):Int)*(2*((min B 1048576:Nat):Int)+1)=((Bx.szl 1048576 (bd X m) i*(2*min B 1048576+1):Nat):Int):=by rw [Int.natCast_mul]; rfl
  repeat (first|refine Ji ?_|refine Qa fun _=>?_|refine w_al fun _=>?_)
  refine Qo (fun E U' M'=>∃ (w:Nat),w=min B 1048576∧E=[(9,.int .i64 (w:Int)),(8,.int .i64 (i:Int)),(7,.int .i64 ((Bx.szl 1048576 (bd X m) i):Int)),(6,.slice Q i C),(2,.pointer (some ⟨b2,0,none⟩)),(1,.int .i64 (m:Int))]∧ULe Uh27 U'∧M'=(b2,.var (.agg #[.int .i64 (n:Int),.slice p (n*n) c]),24)::(D++M)) ?_ ?_
  ·by_cases hr : -9223372036854775808≤(B:Int)∧(B:Int)≤9223372036854775807
   ·rw [(qX hr).1,(qX hr).2]
    repeat (first|refine Qc ?_|refine Qa fun _=>?_|refine w_al fun _=>?_)
    refine Qi rfl (fun h5=>?_) (fun h5=>?_)
    ·repeat (first|refine Qc ?_|refine Qa fun _=>?_|refine w_al fun _=>?_)
     exact Qn (E':=[(9,.int .i64 ((1048576:Nat):Int)),(8,.int .i64 (i:Int)),(7,.int .i64 ((Bx.szl 1048576 (bd X m) i):Int)),(6,.slice Q i C),(2,.pointer (some ⟨b2,0,none⟩)),(1,.int .i64 (m:Int))]) ⟨rfl,rfl,rfl,rfl,rfl,rfl,trivial⟩ ⟨1048576,by omega,rfl,uc,rfl⟩
    ·repeat (first|refine Qc ?_|refine Qa fun _=>?_|refine w_al fun _=>?_)
     exact Qn (E':=[(9,.int .i64 ((B:Nat):Int)),(8,.int .i64 (i:Int)),(7,.int .i64 ((Bx.szl 1048576 (bd X m) i):Int)),(6,.slice Q i C),(2,.pointer (some ⟨b2,0,none⟩)),(1,.int .i64 (m:Int))]) ⟨rfl,rfl,rfl,rfl,rfl,rfl,trivial⟩ ⟨B,by omega,rfl,uc,rfl⟩
   ·rw [(YJ hr).1,(YJ hr).2]
    repeat (first|refine Qc ?_|refine Qa fun _=>?_|refine w_al fun _=>?_)
    exact Qn (E':=[(9,.int .i64 ((1048576:Nat):Int)),(8,.int .i64 (i:Int)),(7,.int .i64 ((Bx.szl 1048576 (bd X m) i):Int)),(6,.slice Q i C),(2,.pointer (some ⟨b2,0,none⟩)),(1,.int .i64 (m:Int))]) ⟨rfl,rfl,rfl,rfl,rfl,rfl,trivial⟩ ⟨1048576,by omega,rfl,uc,rfl⟩
  rintro E U2 M' ⟨w,hw,rfl,hU2,rfl⟩
  rw [← hw] at hnx hmb hmi
  try refine Qb ?_
  refine Ye hrow (X:=(b2,.var (.agg #[.int .i64 (n:Int),.slice p (n*n) c]),24)::M) pgs (fun b P2 C2 D2 hr2=>?_)
  refine Qj (M':=(b2,.var (.agg #[.int .i64 (n:Int),.slice p (n*n) c]),24)::(D2++M)) ?_ pgs
  try refine Qb ?_
  rw [hmi,show (if (1048577:Int) < ((Bx.szl 1048576 (bd X m) i*(2*w+1):Nat):Int) then (1048577:Int) else ((Bx.szl 1048576 (bd X m) i*(2*w+1):Nat):Int))=((Bx.szl 1048576 (bd X m) (i+1):Nat):Int) by rw [hnx]; omega]
  exact Qg (E':=[(8,.int .i64 ((i:Int)+1)),(7,.int .i64 ((Bx.szl 1048576 (bd X m) (i+1)):Int)),(6,.slice P2 (i+1) C2),(2,.pointer (some ⟨b2,0,none⟩)),(1,.int .i64 (m:Int))]) (m:=n - (i+1)) ⟨rfl,rfl,rfl,rfl,rfl,trivial⟩ (by omega) ⟨i+1,P2,C2,_,D2,by omega,hr2,JV hrow.len.1 (hel.up KeptC.out uc) ⟨by rw [hw,hB],by omega,by omega⟩,rfl,uc,rfl,rfl⟩
 ·obtain rfl:n=i:=by omega
  repeat (first|refine Qc ?_|refine Qa fun _=>?_|refine w_al fun _=>?_)
  exact Qe D sym rfl (.cons (.tmp rfl) (.cons (.tmp rfl) .nil)) uc sb (.inl rfl) ⟨_,rfl,Q,C,us,rfl,hrow,hel⟩
theorem Qep {n m c:Nat} {p:Option Addr} {vs:List Value} {f:Nat→Int} {X:Nat→Nat→Rat} (rw1:RowAt U [] 1 p (n*n) vs) (el:El Vz U vs f) (hb:∀ k,k < n*n → -1000≤f k∧f k≤1000) (he:Evn n f) (hp:Pdm n f) (h1n:1≤n) (hn:n≤8) (hc:n*n≤c) (hm:m≤1000) (hI:Inv n f X) :
  Ct Tryz.prog 14 [.agg #[.int .i64 (n:Int),.slice p (n*n) c],.int .i64 (m:Int)] G U M fun v U' D=>v = .int .i64 (Bx.szl 1048576 (bd X m) n:Int)∧ULe U U'∧D=[]:=by
 refine Qh Tryz.func14 rfl rfl rfl rfl ?_
 repeat (first|refine Qc ?_|refine Qa fun _=>?_|refine w_al fun _=>?_)
 rename_i b2
 refine Qd rfl rfl rfl rfl rfl rfl (fun _=>yh (rw1.up uc (List.nil_sublist _)) (el.up KeptC.out uc) hb he hp h1n hn hc hm hI) ?_
 rintro v5 U5 D5 hU5 ⟨s,rfl,-,rfl⟩
 try rw [List.nil_append]
 repeat (first|refine Qc ?_|refine Qa fun _=>?_|refine w_al fun _=>?_)
 exact Qe [] sym rfl (.cons (.tmp rfl) .nil) uc sb (.inl rfl) ⟨rfl,uc,rfl⟩
theorem Qar {n c:Nat} {p:Option Addr}:Ct Tryz.prog 12 [.slice p n c] G U M fun v U' D=>v = .bool (decide (64 < n))∧U=U'∧D=[]:=by
 refine Qh Tryz.func12 rfl rfl rfl rfl ?_
 repeat (first|refine Qc ?_|refine Qa fun _=>?_|refine w_al fun _=>?_)
 refine Qe [] sym rfl (.cons (.tmp rfl) .nil) uc sb (.inl rfl) ⟨?_,rfl,rfl⟩
 show Value.bool (dec ((n:Int) > 64))=_
 rw [Jj]
 congr 1
 exact decide_eq_decide.2 (by omega)
theorem vL {n:Nat} {f:Nat→Int} (hb:∀ k,k < n*n → -1000≤f k∧f k≤1000) (he:Evn n f) (hp:Pdm n f) (h1n:1≤n) (hn:n≤8):∃ X,Inv n f X:=by
 have hd:=(Vf he hp).2.2 h1n
 have hs:=(Vf he hp).1
 have hd0:((Lr.det n (gz n f):Int):Rat)≠0:=fun e=>by
  have:=Rat.intCast_inj.1 (e.trans (show (0:Rat)=((0:Int):Rat) from rfl))
  omega
 refine ⟨fun i j=>((Lr.adj n (gz n f) j i:Int):Rat) / ((Lr.det n (gz n f):Int):Rat),QaN hb he hp h1n hn fun i j hi hj=>?_⟩
 have h1:=La.adj_rt (A:=gz n f) hj hi
 show (La.sm n fun k=>((Lr.adj n (gz n f) k i:Int):Rat) / ((Lr.det n (gz n f):Int):Rat)*gq n f k j)=_
 rw [La.sm_congr (g:=fun k=>((Lr.det n (gz n f):Int):Rat)⁻¹*(((gz n f j k:Int):Rat)*((Lr.adj n (gz n f) k i:Int):Rat))) fun k hk=>by
  rw [hs k j hk hj,Rat.div_def,Rat.mul_comm ((Lr.adj n (gz n f) k i:Int):Rat),Rat.mul_assoc,Rat.mul_comm ((Lr.adj n (gz n f) k i:Int):Rat)]; rfl,La.sm_mul,h1]
 by_cases e:j=i
 ·rw [if_pos e,Rat.inv_mul_cancel _ hd0,show (La.idm i j:Rat)=1 from if_pos e.symm]
 ·rw [if_neg e,Rat.mul_zero,show (La.idm i j:Rat)=0 from if_neg (Ne.symm e)]
end Go.Proofs.YthnnlgjlhnmhnaaGreat

/- Walks of layer 36: Vectors of the program. -/
namespace Go.Proofs.YthnnlgjlhnmhnaaGreat
open Go.Hp
variable {G:World} {U U':UH} {M:MH}
def pv (n:Nat) (f:Nat→Int) (b:Nat→Nat) (m:Nat):Nat→Bool:=fun k=>vn n f b k == m
end Go.Proofs.YthnnlgjlhnmhnaaGreat

/- Layer 36: the vectors of a number come in pairs (plain). -/
namespace Go.Proofs.YthnnlgjlhnmhnaaGreat
open Go.Hp
variable {G:World} {U U':UH} {M:MH}
def ws (n:Nat) (f x:Nat→Int) (j k:Nat):Int:=(Lr.sm j fun a=>Lr.sm n fun k=>x a*x k*f (a*n+k))+Lr.sm k fun t=>x j*x t*f (j*n+t)
theorem Qjl {n:Nat} {f x:Nat→Int}:(Lr.sm n fun a=>Lr.sm n fun k=>x a*x k*f (a*n+k))=qp n f x n:=by
 unfold qp rp
 exact Lr.sm_congr fun a _=>by
  rw [← Lr.sm_mul]
  exact Lr.sm_congr fun j _=>by rw [Int.mul_assoc,Int.mul_comm (x j)]
theorem Qim {n:Nat} {f x:Nat→Int} {j k:Nat} (hn:n≤8) (hj:j < n) (hk:k≤n) (hb:∀ k,k < n*n → -1000≤f k∧f k≤1000) (hx:∀ i,i < n → -1048576≤x i∧x i≤1048576) : -80000000000000000≤ws n f x j k∧ws n f x j k≤80000000000000000:=by
 have hone:∀ a t,a < n→t < n → -(1048576*1048576*1000)≤x a*x t*f (a*n+t)∧x a*x t*f (a*n+t)≤1048576*1048576*1000:=fun a t ha ht=>qh (qh (hx a ha) (hx t ht)) (hb _ (Ym ha ht))
 have h1:∀ a,a < j → -(8*(1048576*1048576*1000))≤(Lr.sm n fun k=>x a*x k*f (a*n+k))∧(Lr.sm n fun k=>x a*x k*f (a*n+k))≤8*(1048576*1048576*1000):=fun a ha=>by
  have:=qN (c:=1048576*1048576*1000) (n:=n) (f:=fun k=>x a*x k*f (a*n+k)) fun t ht=>hone a t (by omega) ht
  have h2:((n:Nat):Int)*(1048576*1048576*1000)≤8*(1048576*1048576*1000):=Int.mul_le_mul_of_nonneg_right (by omega) (by decide)
  omega
 have h3:=qN (n:=j) h1
 have h4:((j:Nat):Int)*(8*(1048576*1048576*1000))≤8*(8*(1048576*1048576*1000)):=Int.mul_le_mul_of_nonneg_right (by omega) (by decide)
 have h5:=qN (c:=1048576*1048576*1000) (n:=k) (f:=fun t=>x j*x t*f (j*n+t)) fun t ht=>hone j t hj (by omega)
 have h6:((k:Nat):Int)*(1048576*1048576*1000)≤8*(1048576*1048576*1000):=Int.mul_le_mul_of_nonneg_right (by omega) (by decide)
 unfold ws
 omega
end Go.Proofs.YthnnlgjlhnmhnaaGreat

/- Walks of layer 36's reference: first, value, next. -/
namespace Go.Proofs.YthnnlgjlhnmhnaaGreat
open Go.Hp
variable {G:World} {U U':UH} {M:MH}
theorem QbT {n c:Nat} {p:Option Addr} {bs:List Value} {b:Nat→Nat} (rw1:RowAt U [] 1 p n bs) (el:El Vz U bs fun i=>(b i:Int)) (hb:∀ i,i < n→b i≤1048576) (hn:n≤8) :
  Ct Tryz.prog 34 [.slice p n c] G U M fun v U' D=>Lo Vz TInt 1 n U' D v (fun i => -(b i:Int))∧ULe U U':=by
 have wneg:∀ a,a < n→IntKind.i64.wrap (0 - ((b a:Nat):Int)) = -((b a:Nat):Int):=fun a ha=>by
  have:=hb a ha
  rw [IntWalk.i64_in _ (by omega)]; omega
 refine Qh Tryz.func34 rfl rfl rfl rfl ?_
 repeat (first|refine Qc ?_|refine Qa fun _=>?_|refine w_al fun _=>?_)
 try refine Qu (M':=([])++M) (ULe.refl _) sbk ?_
 refine Ql (fun z E U' M'=>∃ (i:Nat) (q:Option Addr) (C:Nat) (vs:List Value) (D:MH),i≤n∧RowO TInt 1 D q i C vs∧El Vz U' vs (fun i => -(b i:Int))∧E=[(3,.slice q i C),(4,.int .i64 (i:Int)),(0,.slice p n c)]∧ULe U U'∧M'=D++M∧z=n - i) (n0:=n - 0) (E0:=[(3,.slice none 0 0),(4,.int .i64 ((0:Nat):Int)),(0,.slice p n c)]) ⟨rfl,rfl,rfl,trivial⟩ ⟨0,none,0,[],[],by omega,RowO.nil,El.nil,rfl,uc,rfl,rfl⟩ ?_
 rintro z E U1 M' ⟨i,q,C,vs,D,hi,hrow,hel,rfl,hU1,rfl,rfl⟩
 try refine Qb ?_
 refine Qi rfl (fun h=>?_) (fun h=>?_)
 ·have hin:i < n:=by omega
  have hbi:=hb i hin
  obtain ⟨v1,hv1⟩:=rw1.at hin
  obtain ⟨hv,hz⟩:=el _ _ hv1
  obtain rfl:v1 = .int .i64 ((b i:Nat):Int):=hv
  try refine Qb ?_
  refine sl_y (Qf sym rfl rfl rfl rfl rfl rfl ((rw1.up uc sb).lt hv1) ((rw1.up uc sb).get _ _ hv1).1) rfl rfl rfl rfl ?_; refine sl_y (Qk sym rfl rfl rfl rfl (rw1.up uc sb) hv1 rfl) rfl rfl rfl rfl ?_
  try refine Qb ?_
  rw [wneg i hin]
  refine Ye hrow (X:=M) (List.Perm.refl _) (fun b2 P2 C2 D2 hr2=>?_)
  try refine Qb ?_
  exact Qg (E':=[(3,.slice P2 (i+1) C2),(4,.int .i64 ((i:Int)+1)),(0,.slice p n c)]) (m:=n - (i+1)) ⟨rfl,rfl,rfl,trivial⟩ (by omega) ⟨i+1,P2,C2,_,D2,by omega,hr2,JV hrow.len.1 (hel.up KeptC.out uc) ⟨rfl,by omega⟩,rfl,uc,rfl,rfl⟩
 ·obtain rfl:n=i:=by omega
  try refine Qb ?_
  exact Qe D sym rfl (.cons (.tmp rfl) .nil) uc sb (.inl rfl) ⟨⟨_,_,vs,rfl,hrow,hel⟩,uc⟩
theorem Qbn {n c cx:Nat} {p px:Option Addr} {vs xs:List Value} {f x:Nat→Int} (rw1:RowAt U [] 1 p (n*n) vs) (el:El Vz U vs f) (hb:∀ k,k < n*n → -1000≤f k∧f k≤1000) (rx:RowAt U M 1 px n xs) (ex:El Vz U xs x) (hx:∀ i,i < n → -1048576≤x i∧x i≤1048576) (hn:n≤8) :
  Ct Tryz.prog 36 [.agg #[.int .i64 (n:Int),.slice p (n*n) c],.slice px n cx] G U M fun v U' D=>v = .int .i64 (qv n f x)∧U=U'∧D=[]:=by
 have hnn:n*n≤8*8:=Nat.mul_le_mul hn hn
 refine Qh Tryz.func36 rfl rfl rfl rfl ?_
 repeat (first|refine Qc ?_|refine Qa fun _=>?_|refine w_al fun _=>?_)
 rename_i b2
 try refine Qu (M':=(b2,.var (.agg #[.int .i64 (n:Int),.slice p (n*n) c]),24)::M) (ULe.refl _) sbk ?_
 refine Ql (fun z E U' M'=>∃ (j:Nat),j≤n∧U=U'∧E=[(6,.int .i64 (j:Int)),(5,.int .i64 (ws n f x j 0)),(2,.pointer (some ⟨b2,0,none⟩)),(1,.slice px n cx)]∧ULe U U'∧M'=(b2,.var (.agg #[.int .i64 (n:Int),.slice p (n*n) c]),24)::M∧z=n - j) (n0:=n - 0) (E0:=[(6,.int .i64 ((0:Nat):Int)),(5,.int .i64 (ws n f x 0 0)),(2,.pointer (some ⟨b2,0,none⟩)),(1,.slice px n cx)]) ⟨rfl,rfl,rfl,rfl,trivial⟩ ⟨0,by omega,rfl,rfl,uc,rfl,rfl⟩ ?_
 rintro z E U1 M' ⟨j,hj,rfl,rfl,hU1,rfl,rfl⟩
 try refine Qb ?_
 refine Qi rfl (fun h6=>?_) (fun h6=>?_)
 ·have hjn:j < n:=by omega
  obtain ⟨u1,hu1⟩:=rx.at hjn
  obtain ⟨hv1,hz1⟩:=ex _ _ hu1
  subst hv1
  try refine Qb ?_
  try refine Qu (M':=(b2,.var (.agg #[.int .i64 (n:Int),.slice p (n*n) c]),24)::M) (ULe.refl _) sbk ?_
  refine Ql (fun z E U' M'=>∃ (k:Nat),k≤n∧U=U'∧E=[(7,.int .i64 (k:Int)),(6,.int .i64 (j:Int)),(5,.int .i64 (ws n f x j k)),(2,.pointer (some ⟨b2,0,none⟩)),(1,.slice px n cx)]∧ULe U U'∧M'=(b2,.var (.agg #[.int .i64 (n:Int),.slice p (n*n) c]),24)::M∧z=n - k) (n0:=n - 0) (E0:=[(7,.int .i64 ((0:Nat):Int)),(6,.int .i64 (j:Int)),(5,.int .i64 (ws n f x j 0)),(2,.pointer (some ⟨b2,0,none⟩)),(1,.slice px n cx)]) ⟨rfl,rfl,rfl,rfl,rfl,trivial⟩ ⟨0,by omega,rfl,rfl,uc,rfl,rfl⟩ ?_
  rintro z E U10 M' ⟨k,hk,rfl,rfl,hU10,rfl,rfl⟩
  try refine Qb ?_
  refine Qi rfl (fun h7=>?_) (fun h7=>?_)
  ·have hkn:k < n:=by omega
   obtain ⟨u2,hu2⟩:=rx.at hkn
   obtain ⟨hv2,hz2⟩:=ex _ _ hu2
   subst hv2
   have hl:=Ym hjn hkn
   obtain ⟨u4,hu4⟩:=rw1.at hl
   obtain ⟨hv4,hz4⟩:=el _ _ hu4
   subst hv4
   have m1:=qh (hx j hjn) (hx k hkn)
   have m2:=qh m1 (hb _ hl)
   have r1:=Qim (x:=x) hn hjn (show k≤n by omega) hb hx
   have r2:=Qim (x:=x) hn hjn (show k+1≤n by omega) hb hx
   have e1:ws n f x j (k+1)=ws n f x j k+x j*x k*f (j*n+k):=(Int.add_assoc _ _ _).symm
   have e2:(j:Int)*(n:Int)=((j*n:Nat):Int):=(Int.natCast_mul j n).symm
   try refine Qb ?_
   refine Qx [22] [0,1,2,3,4,5,6,7,8,9,10,11,12,13,14,15,16,17,18,19,20,21,22] sym (by kernel_rfl) ?_
   try refine Qb ?_
   refine sl_y (Qf sym rfl rfl rfl rfl rfl rfl ((rx.up uc sb).lt hu1) ((rx.up uc sb).get _ _ hu1).1) rfl rfl rfl rfl ?_; refine sl_y (Qk sym rfl rfl rfl rfl (rx.up uc sb) hu1 rfl) rfl rfl rfl rfl ?_
   try refine Qb ?_
   refine sl_y (Qf sym rfl rfl rfl rfl rfl rfl ((rx.up uc sb).lt hu2) ((rx.up uc sb).get _ _ hu2).1) rfl rfl rfl rfl ?_; refine sl_y (Qk sym rfl rfl rfl rfl (rx.up uc sb) hu2 rfl) rfl rfl rfl rfl ?_
   try refine Qb ?_
   refine sl_y (Qf sym rfl rfl rfl rfl rfl ( (show _=((j*n+k:Nat):Int) by omega)) ((rw1.up uc sb).lt hu4) ((rw1.up uc sb).get _ _ hu4).1) rfl rfl rfl rfl ?_; refine sl_y (Qk sym rfl rfl rfl rfl (rw1.up uc sb) hu4 rfl) rfl rfl rfl rfl ?_
   try refine Qb ?_
   rw [← e1]
   exact Qg (E':=[(7,.int .i64 ((k:Int)+1)),(6,.int .i64 (j:Int)),(5,.int .i64 (ws n f x j (k+1))),(2,.pointer (some ⟨b2,0,none⟩)),(1,.slice px n cx)]) (m:=n - (k+1)) ⟨rfl,rfl,rfl,rfl,rfl,trivial⟩ (by omega) ⟨k+1,by omega,rfl,rfl,uc,rfl,rfl⟩
  ·obtain rfl:n=k:=by omega
   have e1:ws n f x (j+1) 0=ws n f x j n:=Int.add_zero _
   rw [← e1]
   try refine Qb ?_
   exact Qg (E':=[(6,.int .i64 ((j:Int)+1)),(5,.int .i64 (ws n f x (j+1) 0)),(2,.pointer (some ⟨b2,0,none⟩)),(1,.slice px n cx)]) (m:=n - (j+1)) ⟨rfl,rfl,rfl,rfl,trivial⟩ (by omega) ⟨j+1,by omega,rfl,rfl,uc,rfl,rfl⟩
 ·obtain rfl:n=j:=by omega
  have e1:ws n f x n 0=qp n f x n:=by rw [← Qjl]; exact Int.add_zero _
  have q1:=Qdf hn (Nat.le_refl n) hb hx
  have eq:IntKind.i64.wrap ((qp n f x n).tdiv 2)=qv n f x:=IntWalk.i64_in _ (by
   have := @QbF (qp n f x n)
   omega)
  rw [e1]
  try refine Qb ?_
  exact Qe [] sym rfl (.cons (.tmp rfl) .nil) uc sb (.inl rfl) ⟨by rw [← eq]; rfl,rfl,rfl⟩
theorem vN {n k cb cx:Nat} {pb px:Option Addr} {bs xs:List Value} {b:Nat→Nat} {Dx X:MH} (rw2:RowAt U [] 1 pb n bs) (el2:El Vz U bs fun i=>(b i:Int)) (hbb:∀ i,i < n→b i≤1048576) (hrow:RowO TInt 1 Dx px n cx xs) (hex:El Vz U xs (Bx.vec b n k)) (hk:k < Bx.all b n) (h1n:1≤n) (hn:n≤8) :
  Cx Tryz.prog 35 [.slice px n cx,.slice pb n cb] G U (Dx++X) fun v U' M'=>∃ Dx' xs',M'=Dx'++X∧RowO TInt 1 Dx' px n cx xs'∧(k+1 < Bx.all b n∧v = .bool true∧El Vz U' xs' (Bx.vec b n (k+1))∨k+1=Bx.all b n∧v = .bool false):=by
 have wneg:∀ a,a < n→IntKind.i64.wrap (0 - ((b a:Nat):Int)) = -((b a:Nat):Int):=fun a ha=>by
  have:=hbb a ha
  rw [IntWalk.i64_in _ (by omega)]; omega
 have hxb:∀ a,a < n → -1048576≤Bx.vec b n k a∧Bx.vec b n k a≤1048576:=fun a ha=>by
  have:=hbb a ha
  have:=Bx.vec_le b n k a
  omega
 have hex0:El Vz U xs (fun a=>if a < n then Bx.vec b n k a else -(b a:Int)):=hex.congr hrow.len.1 fun a ha=>(if_pos ha).symm
 have hps:=hrow.some (by omega)
 refine JX Tryz.func35 rfl rfl rfl rfl ?_
 repeat (first|refine Qc ?_|refine Qa fun _=>?_|refine w_al fun _=>?_)
 try refine Qu (M':=Dx++X) (ULe.refl _) sbk ?_
 refine Ql (fun z E U' M'=>∃ (j:Nat) (xs:List Value) (Dx:MH),j≤n∧RowO TInt 1 Dx px n cx xs∧El Vz U' xs (fun a=>if a < j then (Bx.vec b n k) a else -(b a:Int))∧(∀ a,j≤a→a < n→(Bx.vec b n k) a=b a)∧U=U'∧E=[(5,.int .i64 ((j:Int) - 1)),(0,.slice px n cx),(1,.slice pb n cb)]∧ULe U U'∧M'=Dx++X∧z=j) (n0:=n) (E0:=[(5,.int .i64 (((n:Nat):Int) - 1)),(0,.slice px n cx),(1,.slice pb n cb)]) ⟨rfl,rfl,rfl,trivial⟩ ⟨n,xs,Dx,by omega,hrow,hex0,(fun a h1 h2=>absurd h1 (by omega)),rfl,rfl,uc,rfl,rfl⟩ ?_
 clear hrow hex0 hex
 rintro z E U1 M' ⟨j,xs,Dx,hj,hrow,hex,hful,rfl,rfl,hU1,rfl,hzR⟩
 try refine Qb ?_
 refine Qi rfl (fun h1=>?_) (fun h1=>?_)
 ·obtain ⟨j,rfl⟩:∃ i,j=i+1:=⟨j - 1,by omega⟩
  have hjn:j < n:=by omega
  have hbj:=hbb j hjn
  have hlen:=hrow.len.1
  have rX:=hrow.at (U:=U) (M:=Dx++X) sb
  obtain ⟨v1,hv1⟩:=rX.at hjn
  obtain ⟨hv,hz1⟩:Vz U v1 ((Bx.vec b n k) j):=by
   have h:=hex _ _ hv1
   simp only [if_pos (show j < j+1 by omega)] at h
   exact h
  subst hv
  obtain ⟨v2,hv2⟩:=rw2.at hjn
  obtain ⟨hv,hz2⟩:=el2 _ _ hv2
  obtain rfl:v2 = .int .i64 ((b j:Nat):Int):=hv
  rw [show ((j+1:Nat):Int) - 1=(j:Int) by omega]
  try refine Qb ?_
  refine Qx [] [0,1,2,3,4,5,6,7,8] sym (by kernel_rfl) ?_
  try refine Qb ?_
  refine sl_y (Qf sym rfl rfl rfl rfl rfl rfl (rX.lt hv1) (rX.get _ _ hv1).1) rfl rfl rfl rfl ?_; refine sl_y (Qk sym rfl rfl rfl rfl rX hv1 rfl) rfl rfl rfl rfl ?_
  try refine Qb ?_
  refine sl_y (Qf sym rfl rfl rfl rfl rfl rfl ((rw2.up uc sb).lt hv2) ((rw2.up uc sb).get _ _ hv2).1) rfl rfl rfl rfl ?_; refine sl_y (Qk sym rfl rfl rfl rfl (rw2.up uc sb) hv2 rfl) rfl rfl rfl rfl ?_
  try refine Qb ?_
  have hxle:=(Bx.vec_le b n k j).2
  refine Qi rfl (fun h2=>?_) (fun h2=>?_)
  ·have hne:(Bx.vec b n k) j≠b j:=by omega
   have hxj:=hxb j hjn
   try refine Qb ?_
   refine sl_y (Qf sym rfl rfl rfl rfl rfl rfl (rX.lt hv1) (rX.get _ _ hv1).1) rfl rfl rfl rfl ?_; refine sl_y (Qk sym rfl rfl rfl rfl rX hv1 rfl) rfl rfl rfl rfl ?_
   try refine Qb ?_
   refine QB (j:=j) hjn hps ?_
   refine QG (v := .int .i64 ((Bx.vec b n k) j+1)) (X:=X) hrow (List.Perm.refl _) hjn (fun D3 hr3=>?_)
   have hlast:k+1≠Bx.all b n:=fun e=>hne ((Bx.vec_last hk).2 e j hjn)
   obtain ⟨g1,g2,g3⟩:=Bx.vec_next hjn (fun a h4 h5=>hful a (by omega) h5) hne
   try refine Qb ?_
   exact Jv (M':=D3++X) sym rfl (.cons (.tmp rfl) .nil) uc sb (.inl rfl) ⟨D3,_,rfl,hr3,.inl ⟨by omega,rfl,YH (fun a x hx hne=>by
    have:=hex _ _ hx
    by_cases e:a < j
    ·simp only [if_pos (show a < j+1 by omega)] at this; rw [g1 a e]; exact this
    ·have han:a < n:=by
      have:=(List.getElem?_eq_some_iff.1 hx).1
      omega
     simp only [if_neg (show ¬ a < j+1 by omega)] at this; rw [g3 a (by omega) han]; exact this) (by rw [g2]; exact ⟨rfl,by omega⟩)⟩⟩
  ·have heq:(Bx.vec b n k) j=b j:=by omega
   try refine Qb ?_
   refine sl_y (Qf sym rfl rfl rfl rfl rfl rfl ((rw2.up uc sb).lt hv2) ((rw2.up uc sb).get _ _ hv2).1) rfl rfl rfl rfl ?_; refine sl_y (Qk sym rfl rfl rfl rfl (rw2.up uc sb) hv2 rfl) rfl rfl rfl rfl ?_
   try refine Qb ?_
   rw [wneg j hjn]
   refine QB (j:=j) hjn hps ?_
   refine QG (v := .int .i64 (-(b j:Int))) (X:=X) hrow (List.Perm.refl _) hjn (fun D3 hr3=>?_)
   try refine Qb ?_
   exact Qg (E':=[(5,.int .i64 ((j:Int) - 1)),(0,.slice px n cx),(1,.slice pb n cb)]) (m:=j) ⟨rfl,rfl,rfl,trivial⟩ (by omega) ⟨j,xs.set j (.int .i64 (-(b j:Int))),D3,by omega,hr3,YH (fun a x hx hne=>by
    have:=hex _ _ hx
    by_cases e:a < j
    ·simp only [if_pos (show a < j+1 by omega)] at this; simp only [if_pos e]; exact this
    ·simp only [if_neg (show ¬ a < j+1 by omega)] at this; simp only [if_neg e]; exact this) (by simp only [if_neg (Nat.lt_irrefl j)]; exact ⟨rfl,by omega⟩),(fun a h3 h4=>by
    by_cases e:a=j
    ·rw [e]; exact heq
    ·exact hful a (by omega) h4),rfl,rfl,uc,rfl,rfl⟩
 ·obtain rfl:j=0:=by omega
  have hfin:=(Bx.vec_last hk).1 fun a ha=>hful a (by omega) ha
  try refine Qb ?_
  exact Jv (M':=Dx++X) sym rfl (.cons (.tmp rfl) .nil) uc sb (.inl rfl) ⟨Dx,xs,rfl,hrow,.inr ⟨hfin,rfl⟩⟩
end Go.Proofs.YthnnlgjlhnmhnaaGreat

/- Laws of layer 36: Vectors. -/
namespace Go.Proofs.YthnnlgjlhnmhnaaGreat
open Go.Hp
variable {G:World} {U U':UH} {M:MH}
end Go.Proofs.YthnnlgjlhnmhnaaGreat
