/- Texts of this seat's own, merged: each begins with its own remark. -/
import Derived.Test.YthnnlgjlhnmhnaaGreatM37
import Derived.Test.YthnnlgjlhnmhnaaGreatM96
import Derived.Test.YthnnlgjlhnmhnaaGreatM23
import Derived.Test.YthnnlgjlhnmhnaaGreatM26
import Derived.Test.YthnnlgjlhnmhnaaGreatM24
import Derived.Test.YthnnlgjlhnmhnaaGreatM21
import Derived.Test.YthnnlgjlhnmhnaaGreatM35
import Derived.Test.YthnnlgjlhnmhnaaGreatM34
/- Walks of matrix: symmetric, mix, turn. -/
namespace Go.Proofs.YthnnlgjlhnmhnaaGreat
open Go.Hp
variable {G:World} {U U':UH} {M M':MH}
theorem Gs.read {c i j:Nat} {svs:List Value} {F:List MH} {A:Nat→Nat→Rat} (h:Gs rO c U svs F A) (hi:i < svs.length) (hj:j < c) (hM:F.flatten.Sublist M) :
  ∃ q c' vs x,svs[i]?=some (.slice q c c')∧RowAt U M 4 q c vs∧vs[j]?=some (QV.v x)∧x.nrm U [] (A i j):=by
 obtain ⟨q,c',vs,D,hv,hF,-,hR,hel,-,-⟩:=h.put hi
 have r:=hR.at (U:=U) (M:=M) ((List.sublist_flatten_of_mem (List.mem_of_getElem? hF)).trans hM)
 obtain ⟨v,hv2⟩:=r.at hj
 obtain ⟨x,rfl,hx⟩:=hel _ _ hv2
 exact ⟨q,c',vs,x,hv,r,hv2,hx⟩
theorem Gs.put1 {c i j:Nat} {svs:List Value} {F:List MH} {A:Nat→Nat→Rat} (h:Gs rO c U svs F A) (hi:i < svs.length) :
  ∃ q c' vs D,svs[i]?=some (.slice q c c')∧F[i]?=some D∧i < F.length∧rO D q c c' vs ∧
   ∀ (U':UH) (D':MH) (x:QV) (y:Rat),ULe U U'→rO D' q c c' (vs.set j x.v)→x.nrm U' [] y→Gs rO c U' svs (F.set i D') (fun a b=>if a=i∧b=j then y else A a b):=by
 obtain ⟨q,c',vs,D,hv,hF,-,hR,hel,hiF,hput⟩:=h.put hi
 refine ⟨q,c',vs,D,hv,hF,hiF,hR,fun U' D' x y hU hR' hx=>hput U' D' _ _ hU hR' (YH (fun k u hk hne=>?_) ?_) (fun k hk=>?_)⟩
 ·have:=(hel.up (U':=U') QF hU) k u hk
  show Vq U' u (if i=i∧k=j then y else A i k)
  rw [if_neg fun h=>hne h.2]; exact this
 ·show Vq U' x.v (if i=i∧j=j then y else A i j)
  rw [if_pos ⟨rfl,rfl⟩]; exact ⟨x,rfl,hx⟩
 ·funext b
  rw [if_neg fun h=>hk h.1]
theorem vY {n b:Nat} {vg:Value} {A:Nat→Nat→Rat} (hg:Lg n n U M vg A) (sA:∀ i j,i < n→j < n→Szq (A i j) b) (hb:b≤10000000000) (hn:n≤1000) :
  Ct Tryz.prog 92 [vg] G U M fun v U' D=>∃ s:Bool,v = .bool s∧(s=true↔∀ i j,i < n→j < i→A i j=A j i)∧D=[]:=by
 obtain ⟨pg,cg,svs,rfl,-,rg,eg⟩:=hg
 refine Qh Tryz.func92 rfl rfl rfl rfl ?_
 try refine Qb ?_
 refine Ql (fun z E U' M'=>∃ i:Nat,i≤n∧(∀ a b,a < i→b < a→A a b=A b a)∧E=[(7,.int .i64 (i:Int)),(6,.int .i64 (n:Int)),(0,.slice pg n cg)]∧ULe U U'∧M'=M∧z=n - i) (n0:=n)
  (E0:=[(7,.int .i64 ((0:Nat):Int)),(6,.int .i64 (n:Int)),(0,.slice pg n cg)]) ⟨rfl,rfl,rfl,trivial⟩ ⟨0,by omega,(fun a b h=>absurd h (Nat.not_lt_zero a)),rfl,uc,rfl,rfl⟩ ?_
 rintro z E U1 M' ⟨i,hi,hsy,rfl,hU1,rfl,rfl⟩
 try refine Qb ?_
 refine Qi rfl (fun h=>?_) (fun h=>?_)
 ·have hin:i < n:=by omega
  try refine Qb ?_
  refine Ql (fun z E U' M2=>∃ j:Nat,j≤i∧(∀ b,b < j→A i b=A b i)∧E=[(11,.int .i64 (j:Int)),(10,.int .i64 (i:Int)),(3,.int .i64 (i:Int)),(7,.int .i64 (i:Int)),(6,.int .i64 (n:Int)),(0,.slice pg n cg)]∧ULe U1 U'∧M2=M'∧z=i - j) (n0:=i)
   (E0:=[(11,.int .i64 ((0:Nat):Int)),(10,.int .i64 (i:Int)),(3,.int .i64 (i:Int)),(7,.int .i64 (i:Int)),(6,.int .i64 (n:Int)),(0,.slice pg n cg)]) ⟨rfl,rfl,rfl,rfl,rfl,rfl,trivial⟩ ⟨0,by omega,(fun b h=>absurd h (Nat.not_lt_zero b)),rfl,uc,rfl,rfl⟩ ?_
  rintro z E U2 M2 ⟨j,hj,hrow,rfl,hU2,rfl,rfl⟩
  try refine Qb ?_
  refine Qi rfl (fun h2=>?_) (fun h2=>?_)
  ·have hji:j < i:=by omega
   have hjn:j < n:=by omega
   have rg2:=rg.up (U':=U2) (M':=M2) uc sb
   obtain ⟨v1,hv1⟩:=rg2.at hin
   obtain ⟨q1,c1,us,rfl,hc1,ru,eu⟩:=eg _ _ hv1
   obtain ⟨v2,hv2⟩:=rg2.at hjn
   obtain ⟨q2,c2,ws,rfl,hc2,rw2,ew⟩:=eg _ _ hv2
   have ru2:=ru.up (U':=U2) (M':=M2) uc sb
   have rw3:=rw2.up (U':=U2) (M':=M2) uc sb
   obtain ⟨v3,hv3⟩:=ru2.at hjn
   obtain ⟨x3,rfl,hx3⟩:=eu _ _ hv3
   obtain ⟨v4,hv4⟩:=rw3.at hin
   obtain ⟨x4,rfl,hx4⟩:=ew _ _ hv4
   try refine Qb ?_
   refine Qt [0,1,2,3,4,5,6,7,8,9,10,11,12,13,14,15] sym (by kernel_rfl) ?_
   try refine Qb ?_
   refine sl_y (Qf sym rfl rfl rfl rfl rfl rfl (rg2.lt hv1) (rg2.get _ _ hv1).1) rfl rfl rfl rfl ?_; refine sl_y (Qk sym rfl rfl rfl rfl rg2 hv1 rfl) rfl rfl rfl rfl ?_
   try refine Qb ?_
   refine sl_y (Qf sym rfl rfl rfl rfl rfl rfl (ru2.lt hv3) (ru2.get _ _ hv3).1) rfl rfl rfl rfl ?_; refine sl_y (Qp sym rfl rfl rfl rfl rfl ru2 hv3) rfl rfl rfl rfl ?_
   try refine Qb ?_
   refine sl_y (Qf sym rfl rfl rfl rfl rfl rfl (rg2.lt hv2) (rg2.get _ _ hv2).1) rfl rfl rfl rfl ?_; refine sl_y (Qk sym rfl rfl rfl rfl rg2 hv2 rfl) rfl rfl rfl rfl ?_
   try refine Qb ?_
   refine sl_y (Qf sym rfl rfl rfl rfl rfl rfl (rw3.lt hv4) (rw3.get _ _ hv4).1) rfl rfl rfl rfl ?_; refine sl_y (Qp sym rfl rfl rfl rfl rfl rw3 hv4) rfl rfl rfl rfl ?_
   try refine Qb ?_
   refine Qd rfl rfl rfl rfl rfl rfl (fun _=>QhQ (hx3.rep.up uc sb) (hx3.le (sA i j hin hjn) (by omega)) (hx4.rep.up uc sb) (hx4.le (sA j i hjn hin) (by omega))) ?_
   rintro v5 U5 D5 hU5 ⟨rfl,-,rfl⟩
   rw [List.nil_append]
   try refine Qb ?_
   refine QK rfl (fun h3=>?_) (fun h3=>?_)
   ·try refine Qb ?_
    refine Qe [] sym rfl (.cons (.tmp rfl) .nil) uc sb (.inl rfl) ⟨false,rfl,⟨(fun h=>by cases h),fun h=>absurd ?_ h3⟩,rfl⟩
    rw [h i j hin hji,Rat.sub_self]; rfl
   ·have e5:A i j=A j i:=by
     have:=Int.sign_eq_zero_iff_zero.1 h3
     have h6:=Rat.num_eq_zero.1 this
     grind
    try refine Qb ?_
    exact Qg (E':=[(11,.int .i64 ((j:Int)+1)),(10,.int .i64 (i:Int)),(3,.int .i64 (i:Int)),(7,.int .i64 (i:Int)),(6,.int .i64 (n:Int)),(0,.slice pg n cg)]) (m:=i - (j+1)) ⟨rfl,rfl,rfl,rfl,rfl,rfl,trivial⟩ (by omega)
     ⟨j+1,by omega,(fun b hb=>by
      rcases Nat.lt_or_eq_of_le (Nat.le_of_lt_succ hb) with h1 | h1
      ·exact hrow b h1
      ·rw [h1]; exact e5),rfl,uc,rfl,rfl⟩
  ·have e:j=i:=by omega
   subst e
   try refine Qb ?_
   exact Qg (E':=[(7,.int .i64 ((j:Int)+1)),(6,.int .i64 (n:Int)),(0,.slice pg n cg)]) (m:=n - (j+1)) ⟨rfl,rfl,rfl,trivial⟩ (by omega)
    ⟨j+1,by omega,(fun a b ha hb=>by
     rcases Nat.lt_or_eq_of_le (Nat.le_of_lt_succ ha) with h1 | h1
     ·exact hsy a b h1 hb
     ·subst h1; exact hrow b hb),rfl,uc,rfl,rfl⟩
 ·have e:i=n:=by omega
  subst e
  try refine Qb ?_
  exact Qe [] sym rfl (.cons (.tmp rfl) .nil) uc sb (.inl rfl) ⟨true,rfl,⟨fun _=>hsy,fun _=>rfl⟩,rfl⟩
theorem QhA {n b i j:Nat} {X D:MH} {vg:Value} {A:Nat→Nat→Rat} (hg:Go rO n n U D vg A) (sA:∀ a c,a < n→c < n→Szq (A a c) b) (hi:i < n) (hj:j < n) (hne:j≠i) (hb:b≤10000000000) (hn:n≤1000) :
  Cx Tryz.prog 127 [vg,.int .i64 (i:Int),.int .i64 (j:Int)] G U (D++X) fun _ U' M'=>ULe U U'∧∃ D',M'=D'++X∧Go rO n n U' D' vg (La.cop (La.rop A i j 1) i j 1):=by
 obtain ⟨Do,F,pg,cg,svs,rfl,rfl,hro,hg⟩:=hg
 have hsl:=hro.len.1
 rw [List.append_assoc]
 refine JX Tryz.func127 rfl rfl rfl rfl ?_
 try refine Qb ?_
 refine Ql (fun z E U' M'=>∃ (c:Nat) (F:List MH),c≤n∧Gs rO n U' svs F (fun a k=>if a=i∧k < c then A i k+1*A j k else A a k)∧E=[(10,.int .i64 (c:Int)),(9,.int .i64 (n:Int)),(0,.slice pg n cg),(1,.int .i64 (i:Int)),(2,.int .i64 (j:Int))]∧ULe U U'∧M'=Do++(F.flatten++X)∧z=n - c) (n0:=n)
  (E0:=[(10,.int .i64 ((0:Nat):Int)),(9,.int .i64 (n:Int)),(0,.slice pg n cg),(1,.int .i64 (i:Int)),(2,.int .i64 (j:Int))]) ⟨rfl,rfl,rfl,rfl,rfl,trivial⟩ ⟨0,F,by omega,by simpa using hg,rfl,uc,rfl,rfl⟩ ?_
 clear hg F
 rintro z E U1 M' ⟨c,F,hc,hg,rfl,hU1,rfl,rfl⟩
 try refine Qb ?_
 refine Qi rfl (fun h=>?_) (fun h=>?_)
 ·have hcn:c < n:=by omega
  have rA:=hro.at (U:=U1) (M:=Do++(F.flatten++X)) sb
  obtain ⟨q,c',vs,Di,hvi,hFi,hiF,hR,hput⟩:=hg.put1 (i:=i) (j:=c) (by omega)
  obtain ⟨q1,c1,us,x1,hv1,r1,hu1,hx1⟩:=hg.read (i:=i) (j:=c) (M:=Do++(F.flatten++X)) (by omega) hcn ((List.sublist_append_left ..).trans (List.sublist_append_right ..))
  obtain ⟨q2,c2,ws,x2,hv2,r2,hu2,hx2⟩:=hg.read (i:=j) (j:=c) (M:=Do++(F.flatten++X)) (by omega) hcn ((List.sublist_append_left ..).trans (List.sublist_append_right ..))
  rw [if_neg (by omega)] at hx1
  rw [if_neg (by omega)] at hx2
  try refine Qb ?_
  refine Qx [20,21] [0,1,2,3,4,5,6,7,8,9,10,11,12,13,14,15,16,17,18,19,20,21] sym (by kernel_rfl) ?_
  try refine Qb ?_
  refine sl_y (Qf sym rfl rfl rfl rfl rfl rfl (rA.lt hvi) (rA.get _ _ hvi).1) rfl rfl rfl rfl ?_; refine sl_y (Qk sym rfl rfl rfl rfl rA hvi rfl) rfl rfl rfl rfl ?_
  try refine Qb ?_
  refine sl_y (Qf sym rfl rfl rfl rfl rfl rfl (rA.lt hv1) (rA.get _ _ hv1).1) rfl rfl rfl rfl ?_; refine sl_y (Qk sym rfl rfl rfl rfl rA hv1 rfl) rfl rfl rfl rfl ?_
  try refine Qb ?_
  refine sl_y (Qf sym rfl rfl rfl rfl rfl rfl (r1.lt hu1) (r1.get _ _ hu1).1) rfl rfl rfl rfl ?_; refine sl_y (Qp sym rfl rfl rfl rfl rfl r1 hu1) rfl rfl rfl rfl ?_
  try refine Qb ?_
  refine sl_y (Qf sym rfl rfl rfl rfl rfl rfl (rA.lt hv2) (rA.get _ _ hv2).1) rfl rfl rfl rfl ?_; refine sl_y (Qk sym rfl rfl rfl rfl rA hv2 rfl) rfl rfl rfl rfl ?_
  try refine Qb ?_
  refine sl_y (Qf sym rfl rfl rfl rfl rfl rfl (r2.lt hu2) (r2.get _ _ hu2).1) rfl rfl rfl rfl ?_; refine sl_y (Qp sym rfl rfl rfl rfl rfl r2 hu2) rfl rfl rfl rfl ?_
  try refine Qb ?_
  refine Qd rfl rfl rfl rfl rfl rfl (fun _=>(YP (hx1.rep.up uc sb) (hx1.le (sA i c hi hcn) (by omega)) (hx2.rep.up uc sb) (hx2.le (sA j c hj hcn) (by omega))).settle) ?_
  rintro v Uh3 D hU ⟨rfl,_,_,⟨xh3,rfl,h3,-⟩,-,-,hs⟩
  replace h3:=h3.sett hs
  clear hs
  repeat (first|refine Qc ?_|refine Qa fun _=>?_|refine w_al fun _=>?_)
  refine QB (j:=c) hcn (hR.some (by omega)) ?_
  refine QG (v:=xh3.v) (X:=Do++(((F.take i).flatten++(F.drop (i+1)).flatten)++X)) hR (QY (B:=Do) (pickF hFi)) hcn (fun D2 hr2=>?_)
  refine Qj ?_ (QY (B:=Do) (putF hiF)).symm
  try refine Qb ?_
  exact Qg (E':=[(10,.int .i64 ((c:Int)+1)),(9,.int .i64 (n:Int)),(0,.slice pg n cg),(1,.int .i64 (i:Int)),(2,.int .i64 (j:Int))]) (m:=n - (c+1)) ⟨rfl,rfl,rfl,rfl,rfl,trivial⟩ (by omega)
   ⟨c+1,F.set i D2,by omega,Gs.cong2 (hput Uh3 D2 xh3 (A i c+A j c) uc hr2 h3) (fun a=>by
    funext k
    by_cases e:a=i∧k=c
    ·rw [if_pos e,if_pos (by omega),e.2,Rat.one_mul]
    ·rw [if_neg e]
     by_cases e2:a=i∧k < c
     ·rw [if_pos e2,if_pos (by omega)]
     ·rw [if_neg e2,if_neg (by omega)]),rfl,uc,rfl,rfl⟩
 have e:c=n:=by omega
 subst e
 replace hg:=hg.congr (B:=La.rop A i j 1) (n:=c) hsl (fun _ _ _ _ h=>h.len.1) (fun a k _ hk=>by
  unfold La.rop
  by_cases e:a=i
  ·rw [if_pos ⟨e,hk⟩,if_pos e]
  ·rw [if_neg fun h=>e h.1,if_neg e])
 have sR:∀ a k,a < c→k < c→Szq (La.rop A i j 1 a k) (2*b+1):=fun a k ha hk=>by
  unfold La.rop
  split
  ·rw [Rat.one_mul]; exact ((sA i k hi hk).add (sA j k hj hk)).mono (by omega)
  ·exact (sA a k ha hk).mono (by omega)
 generalize La.rop A i j 1=B at hg sR
 try refine Qb ?_
 refine Ql (fun z E U' M'=>∃ (r:Nat) (F:List MH),r≤c∧Gs rO c U' svs F (fun a k=>if k=i∧a < r then B a i+1*B a j else B a k)∧E=[(37,.int .i64 (r:Int)),(36,.int .i64 (c:Int)),(0,.slice pg c cg),(1,.int .i64 (i:Int)),(2,.int .i64 (j:Int))]∧ULe U1 U'∧M'=Do++(F.flatten++X)∧z=c - r) (n0:=c)
  (E0:=[(37,.int .i64 ((0:Nat):Int)),(36,.int .i64 (c:Int)),(0,.slice pg c cg),(1,.int .i64 (i:Int)),(2,.int .i64 (j:Int))]) ⟨rfl,rfl,rfl,rfl,rfl,trivial⟩ ⟨0,F,by omega,by simpa using hg,rfl,uc,rfl,rfl⟩ ?_
 clear hg F h
 rintro z E U2 M' ⟨r,F,hr,hg,rfl,hU2,rfl,rfl⟩
 try refine Qb ?_
 refine Qi rfl (fun h=>?_) (fun h=>?_)
 ·have hrc:r < c:=by omega
  have rA:=hro.at (U:=U2) (M:=Do++(F.flatten++X)) sb
  obtain ⟨q,c',vs,Di,hvi,hFi,hiF,hR,hput⟩:=hg.put1 (i:=r) (j:=i) (by omega)
  obtain ⟨q1,c1,us,x1,hv1,r1,hu1,hx1⟩:=hg.read (i:=r) (j:=i) (M:=Do++(F.flatten++X)) (by omega) hi ((List.sublist_append_left ..).trans (List.sublist_append_right ..))
  obtain ⟨q2,c2,ws,x2,hv2,r2,hu2,hx2⟩:=hg.read (i:=r) (j:=j) (M:=Do++(F.flatten++X)) (by omega) hj ((List.sublist_append_left ..).trans (List.sublist_append_right ..))
  rw [if_neg (by omega)] at hx1
  rw [if_neg (by omega)] at hx2
  try refine Qb ?_
  refine Qx [20,21] [0,1,2,3,4,5,6,7,8,9,10,11,12,13,14,15,16,17,18,19,20,21] sym (by kernel_rfl) ?_
  try refine Qb ?_
  refine sl_y (Qf sym rfl rfl rfl rfl rfl rfl (rA.lt hvi) (rA.get _ _ hvi).1) rfl rfl rfl rfl ?_; refine sl_y (Qk sym rfl rfl rfl rfl rA hvi rfl) rfl rfl rfl rfl ?_
  try refine Qb ?_
  refine sl_y (Qf sym rfl rfl rfl rfl rfl rfl (rA.lt hv1) (rA.get _ _ hv1).1) rfl rfl rfl rfl ?_; refine sl_y (Qk sym rfl rfl rfl rfl rA hv1 rfl) rfl rfl rfl rfl ?_
  try refine Qb ?_
  refine sl_y (Qf sym rfl rfl rfl rfl rfl rfl (r1.lt hu1) (r1.get _ _ hu1).1) rfl rfl rfl rfl ?_; refine sl_y (Qp sym rfl rfl rfl rfl rfl r1 hu1) rfl rfl rfl rfl ?_
  try refine Qb ?_
  refine sl_y (Qf sym rfl rfl rfl rfl rfl rfl (rA.lt hv2) (rA.get _ _ hv2).1) rfl rfl rfl rfl ?_; refine sl_y (Qk sym rfl rfl rfl rfl rA hv2 rfl) rfl rfl rfl rfl ?_
  try refine Qb ?_
  refine sl_y (Qf sym rfl rfl rfl rfl rfl rfl (r2.lt hu2) (r2.get _ _ hu2).1) rfl rfl rfl rfl ?_; refine sl_y (Qp sym rfl rfl rfl rfl rfl r2 hu2) rfl rfl rfl rfl ?_
  try refine Qb ?_
  refine Qd rfl rfl rfl rfl rfl rfl (fun _=>(YP (hx1.rep.up uc sb) (hx1.le (sR r i hrc hi) (by omega)) (hx2.rep.up uc sb) (hx2.le (sR r j hrc hj) (by omega))).settle) ?_
  rintro v Uh3 D hU ⟨rfl,_,_,⟨xh3,rfl,h3,-⟩,-,-,hs⟩
  replace h3:=h3.sett hs
  clear hs
  repeat (first|refine Qc ?_|refine Qa fun _=>?_|refine w_al fun _=>?_)
  refine QB (j:=i) hi (hR.some (by omega)) ?_
  refine QG (v:=xh3.v) (X:=Do++(((F.take r).flatten++(F.drop (r+1)).flatten)++X)) hR (QY (B:=Do) (pickF hFi)) hi (fun D2 hr2=>?_)
  refine Qj ?_ (QY (B:=Do) (putF hiF)).symm
  try refine Qb ?_
  exact Qg (E':=[(37,.int .i64 ((r:Int)+1)),(36,.int .i64 (c:Int)),(0,.slice pg c cg),(1,.int .i64 (i:Int)),(2,.int .i64 (j:Int))]) (m:=c - (r+1)) ⟨rfl,rfl,rfl,rfl,rfl,trivial⟩ (by omega)
   ⟨r+1,F.set r D2,by omega,Gs.cong2 (hput Uh3 D2 xh3 (B r i+B r j) uc hr2 h3) (fun a=>by
    funext k
    by_cases e:a=r∧k=i
    ·rw [if_pos e,if_pos (by omega),e.1,Rat.one_mul]
    ·rw [if_neg e]
     by_cases e2:k=i∧a < r
     ·rw [if_pos e2,if_pos (by omega)]
     ·rw [if_neg e2,if_neg (by omega)]),rfl,uc,rfl,rfl⟩
 ·have e:r=c:=by omega
  subst e
  try refine Qb ?_
  exact Jv sym rfl .nil uc (M':=Do++(F.flatten++X)) sb (.inr rfl) ⟨uc,Do++F.flatten,(List.append_assoc ..).symm,Do,F,pg,cg,svs,rfl,rfl,hro,hg.congr (n:=r) hsl (fun _ _ _ _ h=>h.len.1) (fun a k ha _=>by
   unfold La.cop
   by_cases e:k=i
   ·rw [if_pos ⟨e,ha⟩,if_pos e]
   ·rw [if_neg fun h=>e h.1,if_neg e])⟩
def Vbl (_:UH) (v:Value) (b:Bool):Prop:=v = .bool b
theorem QbY {n b cd:Nat} {X D:MH} {vg:Value} {A:Nat→Nat→Rat} {pd:Option Addr} {ds:List Value} {dn:Nat→Bool} (hg:Go rO n n U D vg A) (sA:∀ a c,a < n→c < n→Szq (A a c) b) (rd:RowAt U X 1 pd n ds) (ed:El Vbl U ds dn) (hb:b≤10000000000) (hn:n≤1000) :
  Cx Tryz.prog 93 [vg,.slice pd n cd] G U (D++X) fun v U' M'=>ULe U U'∧∃ (t:Int) (A':Nat→Nat→Rat) (D':MH),v = .int .i64 t∧M'=D'++X∧Go rO n n U' D' vg A' ∧
   ((t = -1∧A'=A∧(∀ i,i < n→dn i=false→A i i=0)∧∀ i j,i < n→j < i→dn i=false→dn j=false→A i j=0) ∨
    ∃ i:Nat,t=(i:Int)∧i < n∧dn i=false∧((A'=A∧A i i≠0)∨∃ j,j < i∧dn j=false∧A i i=0∧A j j=0∧A i j≠0∧A'=La.cop (La.rop A i j 1) i j 1)):=by
 have hg0:=hg
 obtain ⟨Do,F,pg,cg,svs,rfl,rfl,hro,hg⟩:=hg
 have hsl:=hro.len.1
 have hm1:Do.Sublist ((Do++F.flatten)++X):=(List.sublist_append_left ..).trans (List.sublist_append_left ..)
 have hm2:F.flatten.Sublist ((Do++F.flatten)++X):=(List.sublist_append_right ..).trans (List.sublist_append_left ..)
 have hm3:X.Sublist ((Do++F.flatten)++X):=List.sublist_append_right ..
 have rA:=hro.at (U:=U) (M:=(Do++F.flatten)++X) hm1
 have rD:=rd.up (U':=U) (M':=(Do++F.flatten)++X) (ULe.refl U) hm3
 refine JX Tryz.func93 rfl rfl rfl rfl ?_
 try refine Qb ?_
 refine Ql (fun z E U' M'=>∃ i:Nat,i≤n∧(∀ a,a < i→dn a=false→A a a=0)∧E=[(10,.int .i64 (i:Int)),(9,.int .i64 (n:Int)),(0,.slice pg n cg),(1,.slice pd n cd)]∧U=U'∧M'=(Do++F.flatten)++X∧z=n - i) (n0:=n)
  (E0:=[(10,.int .i64 ((0:Nat):Int)),(9,.int .i64 (n:Int)),(0,.slice pg n cg),(1,.slice pd n cd)]) ⟨rfl,rfl,rfl,rfl,trivial⟩ ⟨0,by omega,(fun a h=>absurd h (Nat.not_lt_zero a)),rfl,rfl,rfl,rfl⟩ ?_
 rintro z E U' M' ⟨i,hi,hdiag,rfl,rfl,rfl,rfl⟩
 try refine Qb ?_
 refine Qi rfl (fun h=>?_) (fun h=>?_)
 ·have hin:i < n:=by omega
  obtain ⟨v1,hv1⟩:=rD.at hin
  obtain rfl:v1=_:=ed _ _ hv1
  obtain ⟨q1,c1,us,x1,hv2,r1,hu1,hx1⟩:=hg.read (i:=i) (j:=i) (M:=(Do++F.flatten)++X) (by omega) hin hm2
  try refine Qb ?_
  rcases Bool.eq_false_or_eq_true (dn i) with hdi | hdi
  ·skip
   rw [hdi] at hv1
   refine sl_y (Qf sym rfl rfl rfl rfl rfl rfl (rD.lt hv1) (rD.get _ _ hv1).1) rfl rfl rfl rfl ?_; refine sl_y (Qk sym rfl rfl rfl rfl rD hv1 rfl) rfl rfl rfl rfl ?_
   try refine Qb ?_
   exact Qg (E':=[(10,.int .i64 ((i:Int)+1)),(9,.int .i64 (n:Int)),(0,.slice pg n cg),(1,.slice pd n cd)]) (m:=n - (i+1)) ⟨rfl,rfl,rfl,rfl,trivial⟩ (by omega)
    ⟨i+1,by omega,(fun a ha hd=>by
     rcases Nat.lt_or_eq_of_le (Nat.le_of_lt_succ ha) with h1 | h1
     ·exact hdiag a h1 hd
     ·subst h1; rw [hdi] at hd; cases hd),rfl,rfl,rfl,rfl⟩
  ·skip
   rw [hdi] at hv1
   refine sl_y (Qf sym rfl rfl rfl rfl rfl rfl (rD.lt hv1) (rD.get _ _ hv1).1) rfl rfl rfl rfl ?_; refine sl_y (Qk sym rfl rfl rfl rfl rD hv1 rfl) rfl rfl rfl rfl ?_
   try refine Qb ?_
   refine sl_y (Qf sym rfl rfl rfl rfl rfl rfl (rA.lt hv2) (rA.get _ _ hv2).1) rfl rfl rfl rfl ?_; refine sl_y (Qk sym rfl rfl rfl rfl rA hv2 rfl) rfl rfl rfl rfl ?_
   try refine Qb ?_
   refine sl_y (Qf sym rfl rfl rfl rfl rfl rfl (r1.lt hu1) (r1.get _ _ hu1).1) rfl rfl rfl rfl ?_; refine sl_y (Qp sym rfl rfl rfl rfl rfl r1 hu1) rfl rfl rfl rfl ?_
   refine Qd rfl rfl rfl rfl rfl rfl (fun _=>Yd (hx1.rep.up uc sb) (hx1.le (sA i i hin hin) (by omega))) ?_
   rintro v U' D hU ⟨rfl,rfl,rfl⟩
   repeat (first|refine Qc ?_|refine Qa fun _=>?_|refine w_al fun _=>?_)
   by_cases h0:A i i≠0
   ·rw [decide_eq_true h0]
    try refine Qb ?_
    exact Jv sym rfl (.cons (.tmp rfl) .nil) uc sb (.inl rfl) ⟨uc,(i:Int),A,Do++F.flatten,rfl,rfl,hg0,.inr ⟨i,rfl,hin,hdi,.inl ⟨rfl,h0⟩⟩⟩
   ·rw [decide_eq_false h0]
    try refine Qb ?_
    exact Qg (E':=[(10,.int .i64 ((i:Int)+1)),(9,.int .i64 (n:Int)),(0,.slice pg n cg),(1,.slice pd n cd)]) (m:=n - (i+1)) ⟨rfl,rfl,rfl,rfl,trivial⟩ (by omega)
     ⟨i+1,by omega,(fun a ha hd=>by
      rcases Nat.lt_or_eq_of_le (Nat.le_of_lt_succ ha) with h1 | h1
      ·exact hdiag a h1 hd
      ·subst h1; exact Classical.not_not.1 h0),rfl,rfl,rfl,rfl⟩
 have e:i=n:=by omega
 subst e
 try refine Qb ?_
 refine Ql (fun z E U' M'=>∃ a:Nat,a≤i∧(∀ r c,r < a→c < r→dn r=false→dn c=false→A r c=0)∧E=[(32,.int .i64 (a:Int)),(31,.int .i64 (i:Int)),(0,.slice pg i cg),(1,.slice pd i cd)]∧U=U'∧M'=(Do++F.flatten)++X∧z=i - a) (n0:=i)
  (E0:=[(32,.int .i64 ((0:Nat):Int)),(31,.int .i64 (i:Int)),(0,.slice pg i cg),(1,.slice pd i cd)]) ⟨rfl,rfl,rfl,rfl,trivial⟩ ⟨0,by omega,(fun r c h=>absurd h (Nat.not_lt_zero r)),rfl,rfl,rfl,rfl⟩ ?_
 clear h
 rintro z E U' M' ⟨a,ha,hlow,rfl,rfl,rfl,rfl⟩
 try refine Qb ?_
 refine Qi rfl (fun h=>?_) (fun h=>?_)
 ·have hai:a < i:=by omega
  try refine Qb ?_
  refine Ql (fun z E U' M'=>∃ j:Nat,j≤a∧(∀ c,c < j→dn a=false→dn c=false→A a c=0)∧E=[(36,.int .i64 (j:Int)),(35,.int .i64 (a:Int)),(6,.int .i64 (a:Int)),(32,.int .i64 (a:Int)),(31,.int .i64 (i:Int)),(0,.slice pg i cg),(1,.slice pd i cd)]∧U=U'∧M'=(Do++F.flatten)++X∧z=a - j) (n0:=a)
   (E0:=[(36,.int .i64 ((0:Nat):Int)),(35,.int .i64 (a:Int)),(6,.int .i64 (a:Int)),(32,.int .i64 (a:Int)),(31,.int .i64 (i:Int)),(0,.slice pg i cg),(1,.slice pd i cd)]) ⟨rfl,rfl,rfl,rfl,rfl,rfl,rfl,trivial⟩ ⟨0,by omega,(fun c h=>absurd h (Nat.not_lt_zero c)),rfl,rfl,rfl,rfl⟩ ?_
  rintro z E U' M' ⟨j,hj,hrow,rfl,rfl,rfl,rfl⟩
  try refine Qb ?_
  refine Qi rfl (fun h2=>?_) (fun h2=>?_)
  ·have hja:j < a:=by omega
   have hji:j < i:=by omega
   obtain ⟨v1,hv1⟩:=rD.at hai
   obtain rfl:v1=_:=ed _ _ hv1
   obtain ⟨v2,hv2⟩:=rD.at hji
   obtain rfl:v2=_:=ed _ _ hv2
   obtain ⟨q1,c1,us,x1,hv3,r1,hu1,hx1⟩:=hg.read (i:=a) (j:=j) (M:=(Do++F.flatten)++X) (by omega) hji hm2
   have again:(dn a=false→dn j=false→A a j=0)→∃ j':Nat,j'≤a∧(∀ c,c < j'→dn a=false→dn c=false→A a c=0)∧[(36,Value.int .i64 ((j:Int)+1)),(35,.int .i64 (a:Int)),(6,.int .i64 (a:Int)),(32,.int .i64 (a:Int)),(31,.int .i64 (i:Int)),(0,.slice pg i cg),(1,.slice pd i cd)]=[(36,.int .i64 (j':Int)),(35,.int .i64 (a:Int)),(6,.int .i64 (a:Int)),(32,.int .i64 (a:Int)),(31,.int .i64 (i:Int)),(0,.slice pg i cg),(1,.slice pd i cd)]∧U=U∧(Do++F.flatten)++X=(Do++F.flatten)++X∧a - (j+1)=a - j':=fun h0 =>
    ⟨j+1,by omega,(fun c hc h3 h4=>by
     rcases Nat.lt_or_eq_of_le (Nat.le_of_lt_succ hc) with h1 | h1
     ·exact hrow c h1 h3 h4
     ·subst h1; exact h0 h3 h4),rfl,rfl,rfl,rfl⟩
   try refine Qb ?_
   rcases Bool.eq_false_or_eq_true (dn a) with hda | hda
   ·skip
    rw [hda] at hv1
    refine sl_y (Qf sym rfl rfl rfl rfl rfl rfl (rD.lt hv1) (rD.get _ _ hv1).1) rfl rfl rfl rfl ?_; refine sl_y (Qk sym rfl rfl rfl rfl rD hv1 rfl) rfl rfl rfl rfl ?_
    try refine Qb ?_
    exact Qg (E':=[(36,.int .i64 ((j:Int)+1)),(35,.int .i64 (a:Int)),(6,.int .i64 (a:Int)),(32,.int .i64 (a:Int)),(31,.int .i64 (i:Int)),(0,.slice pg i cg),(1,.slice pd i cd)]) (m:=a - (j+1)) ⟨rfl,rfl,rfl,rfl,rfl,rfl,rfl,trivial⟩ (by omega) (again fun h3=>by rw [hda] at h3; cases h3)
   ·skip
    rw [hda] at hv1
    refine sl_y (Qf sym rfl rfl rfl rfl rfl rfl (rD.lt hv1) (rD.get _ _ hv1).1) rfl rfl rfl rfl ?_; refine sl_y (Qk sym rfl rfl rfl rfl rD hv1 rfl) rfl rfl rfl rfl ?_
    try refine Qb ?_
    rcases Bool.eq_false_or_eq_true (dn j) with hdj | hdj
    ·skip
     rw [hdj] at hv2
     refine sl_y (Qf sym rfl rfl rfl rfl rfl rfl (rD.lt hv2) (rD.get _ _ hv2).1) rfl rfl rfl rfl ?_; refine sl_y (Qk sym rfl rfl rfl rfl rD hv2 rfl) rfl rfl rfl rfl ?_
     try refine Qb ?_
     exact Qg (E':=[(36,.int .i64 ((j:Int)+1)),(35,.int .i64 (a:Int)),(6,.int .i64 (a:Int)),(32,.int .i64 (a:Int)),(31,.int .i64 (i:Int)),(0,.slice pg i cg),(1,.slice pd i cd)]) (m:=a - (j+1)) ⟨rfl,rfl,rfl,rfl,rfl,rfl,rfl,trivial⟩ (by omega) (again fun _ h4=>by rw [hdj] at h4; cases h4)
    ·skip
     rw [hdj] at hv2
     refine sl_y (Qf sym rfl rfl rfl rfl rfl rfl (rD.lt hv2) (rD.get _ _ hv2).1) rfl rfl rfl rfl ?_; refine sl_y (Qk sym rfl rfl rfl rfl rD hv2 rfl) rfl rfl rfl rfl ?_
     try refine Qb ?_
     refine sl_y (Qf sym rfl rfl rfl rfl rfl rfl (rA.lt hv3) (rA.get _ _ hv3).1) rfl rfl rfl rfl ?_; refine sl_y (Qk sym rfl rfl rfl rfl rA hv3 rfl) rfl rfl rfl rfl ?_
     try refine Qb ?_
     refine sl_y (Qf sym rfl rfl rfl rfl rfl rfl (r1.lt hu1) (r1.get _ _ hu1).1) rfl rfl rfl rfl ?_; refine sl_y (Qp sym rfl rfl rfl rfl rfl r1 hu1) rfl rfl rfl rfl ?_
     refine Qd rfl rfl rfl rfl rfl rfl (fun _=>Yd (hx1.rep.up uc sb) (hx1.le (sA a j hai hji) (by omega))) ?_
     rintro v U' D hU ⟨rfl,rfl,rfl⟩
     repeat (first|refine Qc ?_|refine Qa fun _=>?_|refine w_al fun _=>?_)
     by_cases h0:A a j≠0
     ·rw [decide_eq_true h0]
      try refine Qb ?_
      refine JP rfl rfl rfl rfl rfl rfl (QhA (X:=X) hg0 sA hai hji (by omega) hb hn) ?_
      rintro v3 U3 M3 hU3 ⟨-,D',rfl,hg3⟩
      try refine Qb ?_
      exact Jv sym rfl (.cons (.tmp rfl) .nil) uc sb (.inl rfl) ⟨uc,(a:Int),_,D',rfl,rfl,hg3,.inr ⟨a,rfl,hai,hda,.inr ⟨j,hja,hdj,hdiag a hai hda,hdiag j hji hdj,h0,rfl⟩⟩⟩
     ·rw [decide_eq_false h0]
      try refine Qb ?_
      exact Qg (E':=[(36,.int .i64 ((j:Int)+1)),(35,.int .i64 (a:Int)),(6,.int .i64 (a:Int)),(32,.int .i64 (a:Int)),(31,.int .i64 (i:Int)),(0,.slice pg i cg),(1,.slice pd i cd)]) (m:=a - (j+1)) ⟨rfl,rfl,rfl,rfl,rfl,rfl,rfl,trivial⟩ (by omega) (again fun _ _=>Classical.not_not.1 h0)
  ·have e:j=a:=by omega
   subst e
   try refine Qb ?_
   exact Qg (E':=[(32,.int .i64 ((j:Int)+1)),(31,.int .i64 (i:Int)),(0,.slice pg i cg),(1,.slice pd i cd)]) (m:=i - (j+1)) ⟨rfl,rfl,rfl,rfl,trivial⟩ (by omega)
    ⟨j+1,by omega,(fun r c hr hc h3 h4=>by
     rcases Nat.lt_or_eq_of_le (Nat.le_of_lt_succ hr) with h1 | h1
     ·exact hlow r c h1 hc h3 h4
     ·subst h1; exact hrow c hc h3 h4),rfl,rfl,rfl,rfl⟩
 ·have e:a=i:=by omega
  subst e
  try refine Qb ?_
  exact Jv sym rfl (.cons (.tmp rfl) .nil) uc sb (.inl rfl) ⟨uc,-1,A,Do++F.flatten,rfl,rfl,hg0,.inl ⟨rfl,rfl,hdiag,hlow⟩⟩
end Go.Proofs.YthnnlgjlhnmhnaaGreat

/- Walks of matrix: Signature. -/
namespace Go.Proofs.YthnnlgjlhnmhnaaGreat
open Go.Hp
variable {G:World} {U U':UH} {M M':MH}
theorem QbV {q:Rat}:0 < q.num↔0 < q:=by
 have h1:=Rat.num_nonneg (q:=q)
 have h2:=Rat.num_eq_zero (q:=q)
 constructor
 ·intro h
  have:0≤q:=h1.1 (by omega)
  have:q≠0:=fun e=>by have:=h2.2 e; omega
  grind
 ·intro h
  have:0≤q.num:=h1.2 (by grind)
  have:q.num≠0:=fun e=>by have:=h2.1 e; grind
  omega
theorem Go.up {r c:Nat} {D:MH} {v:Value} {A:Nat→Nat→Rat} (h:Go rO r c U D v A) (hU:ULe U U'):Go rO r c U' D v A:=by
 obtain ⟨Do,F,p,cc,svs,h1,h2,h3,h4⟩:=h
 exact ⟨Do,F,p,cc,svs,h1,h2,h3,h4.up hU⟩
theorem Qiq {q:Rat} (h:q.num.sign > 0):0 < q:=QbV.1 (by
 rcases Int.lt_trichotomy 0 q.num with h1 | h1 | h1
 ·exact h1
 ·rw [← h1] at h; exact absurd h (by decide)
 ·rw [Int.sign_eq_neg_one_of_neg h1] at h; exact absurd h (by decide))
theorem QiV {q:Rat} (h:¬ q.num.sign > 0) (h0:q≠0):q < 0:=by
 have h1:¬ 0 < q:=fun h1=>h (by rw [Int.sign_eq_one_of_pos (QbV.2 h1)]; decide)
 grind
theorem vW {n b:Nat} {va:Value} {A0:Nat→Nat→Rat} (ha:Vm (Wq b) n n U va A0) (hb1:1≤b) (hB:∀ k,k < n→130*sgb b k≤66000000000) (hbb:b≤10000000000) (hn:n≤1000) :
  Ct Tryz.prog 53 [va] G U M fun v U' D=>D=[]∧((∀ i j,i < n→j < n→A0 i j=A0 j i)→∃ (p m w:Nat) (P N W:Nat→Nat→Rat),La.Sig n p m w A0 P N W∧p+m≤n∧v = .tuple #[.int .i64 (p:Int),.int .i64 (m:Int),.int .i64 ((n:Int) - p - m),.int .i64 0]) ∧
   (¬ (∀ i j,i < n→j < n→A0 i j=A0 j i)→v = .tuple #[.int .i64 0,.int .i64 0,.int .i64 0,.int .i64 3]):=by
 have hnn:n*n≤1000*1000:=Nat.mul_le_mul hn hn
 have sA0:∀ i j,i < n→j < n→Szq (A0 i j) b:=fun i j hi hj=>ha.sz hb1 hi hj
 have ha2:=ha
 obtain ⟨_,rfl,pa,cca,as1,rfl,-⟩:=ha
 refine Qh Tryz.func53 rfl rfl rfl rfl ?_
 repeat (first|refine Qc ?_|refine Qa fun _=>?_|refine w_al fun _=>?_)
 rename_i b1
 refine Qd rfl rfl rfl rfl rfl rfl (fun _=>vG (r:=(n:Int)) (c:=(n:Int)) (n:=n*n) (p:=pa) (cc:=cca) (by omega)) ?_
 rintro v U' D hU ⟨rfl,rfl,rfl⟩
 repeat (first|refine Qc ?_|refine Qa fun _=>?_|refine w_al fun _=>?_)
 rw [decide_eq_true ⟨QfT (by omega) (by omega),rfl⟩]
 repeat (first|refine Qc ?_|refine Qa fun _=>?_|refine w_al fun _=>?_)
 refine Qd rfl rfl rfl rfl rfl rfl (fun _=>QbM (Qgu VM _ _ _ _ uc ha2) (by omega) (by omega) (by omega) (by omega)) ?_
 rintro v1 U1 D1 hU1 ⟨hg,-⟩
 have hg0:=hg
 obtain ⟨Do,F,pg,cg,svs,rfl,rfl,-,-⟩:=hg0
 repeat (first|refine Qc ?_|refine Qa fun _=>?_|refine w_al fun _=>?_)
 refine Qd rfl rfl rfl rfl rfl rfl (fun _=>vY (b:=b) (hg.w.lg (M:=_) (((List.sublist_append_left ..).trans (List.sublist_append_right ..)))) sA0 hbb hn) ?_
 rintro v2 U2 D2 hU2 ⟨s,rfl,hs,rfl⟩
 rw [List.nil_append]
 cases s
 ·repeat (first|refine Qc ?_|refine Qa fun _=>?_|refine w_al fun _=>?_)
  refine Qe [] sym rfl (.cons (.tmp rfl) (.cons (.tmp rfl) (.cons (.tmp rfl) (.cons (.tmp rfl) .nil)))) uc sb (.inl rfl) ⟨rfl,fun h=>?_,fun _=>rfl⟩
  have:=hs.2 fun i j hi hj=>h i j hi (by omega)
  cases this
 have hA:∀ i j,i < n→j < n→A0 i j=A0 j i:=fun i j hi hj=>by
  rcases Nat.lt_trichotomy j i with h | h | h
  ·exact hs.1 rfl i j hi h
  ·rw [h]
  ·exact (hs.1 rfl j i hj h).symm
 clear hs
 repeat (first|refine Qc ?_|refine Qa fun _=>?_|refine w_al fun _=>?_)
 refine QQ (m:=n) (n:=n) sym rfl rfl rfl rfl rfl rfl rfl rfl rfl (Nat.le_refl n) (by omega) (by omega) rfl rfl rfl rfl (fun bd=>?_)
 have hrd:=Jk (e:=4) (s:=1) (b:=bd) (n:=n) (z := .bool false) rfl (by omega)
 have hed:El Vbl U2 (List.replicate n (.bool false)) (fun _=>false):=fun k x hk=>by
  rw [List.getElem?_replicate] at hk
  split at hk
  ·cases hk; rfl
  ·cases hk
 generalize List.replicate n (Value.bool false)=ds at hrd hed ⊢
 repeat (first|refine Qc ?_|refine Qa fun _=>?_|refine w_al fun _=>?_)
 refine JP rfl rfl rfl rfl rfl rfl ((QbY (X:=(bd,.arr ds,4)::(b1,.var (.agg #[.int .i64 (n:Int),.int .i64 (n:Int),.slice pa (n*n) cca]),TM)::M) (b:=b) (Go.up hg uc) sA0 (hrd.at sb) hed hbb hn).perm pm) ?_
 rintro v3 U3 M3 hU3 ⟨-,t,A,D,rfl,rfl,hg3,ht⟩
 obtain ⟨L,hgr,hsz,htn,hpd⟩:∃ L,La.Gram n A0 L A∧(∀ a c,a < n→c < n→Szq (A a c) (4*sgb b 0+3))∧Turned n (fun _=>false) A t∧La.Pdn n 0 0 A0 (fun _=>false) L A0 A0:=by
  obtain ⟨L,h1,h2,h3,h4⟩:=QdX hA La.Gram.start La.Pdn.start sA0 ht
  exact ⟨L,h1,h3,h4,h2⟩
 clear ht
 repeat (first|refine Qc ?_|refine Qa fun _=>?_|refine w_al fun _=>?_)
 refine Qu (M':=D++([(bd,.arr ds,4)]++M)) (ULe.refl _) (List.Sublist.append (List.Sublist.refl _) (List.Sublist.cons_cons _ (List.sublist_cons_self ..))) ?_
 refine Ql (fun z E U' M'=>∃ (p m:Nat) (dn:Nat→Bool) (A L P N:Nat→Nat→Rat) (t:Int) (D:MH) (ds:List Value) (Dd:MH),La.Gram n A0 L A∧La.Pdn n p m A0 dn L P N∧(∀ a c,a < n→c < n→Szq (A a c) (4*sgb b (p+m)+3))∧Turned n dn A t ∧
   Go rO n n U' D (.slice pg n cg) A∧RowO 4 1 Dd (some ⟨bd,0,none⟩) n n ds∧El Vbl U' ds dn∧E=[(8,.int .i64 t),(7,.slice (some ⟨bd,0,none⟩) n n),(6,.slice pg n cg),(2,.int .i64 (p:Int)),(3,.int .i64 (m:Int))]∧ULe U3 U'∧M'=D++(Dd++M)∧z=n - (p+m)) (n0:=n)
  (E0:=[(8,.int .i64 t),(7,.slice (some ⟨bd,0,none⟩) n n),(6,.slice pg n cg),(2,.int .i64 ((0:Nat):Int)),(3,.int .i64 ((0:Nat):Int))]) ⟨rfl,rfl,rfl,rfl,rfl,trivial⟩ ⟨0,0,fun _=>false,A,L,A0,A0,t,D,ds,_,hgr,hpd,hsz,htn,hg3,hrd,hed,rfl,uc,rfl,rfl⟩ ?_
 clear hg hrd hed hg3 hgr hsz htn hpd
 rintro z E U4 M' ⟨p,m,dn,A,L,P,N,t,D,ds,Dd,hgr,hpd,hsz,htn,hg,hrd,hed,rfl,hU4,rfl,rfl⟩
 have hnum:=hpd.num
 have hcl:=La.cnt_le dn n
 try refine Qb ?_
 refine Qi rfl (fun h=>?_) (fun h=>?_)
 ·obtain ⟨i,rfl,hin,hdi,h0⟩:∃ i:Nat,t=(i:Int)∧i < n∧dn i=false∧A i i≠0:=by
   rcases htn with ⟨h1,-⟩ | h1
   ·omega
   ·exact h1
  clear htn h
  have hclt:=La.cnt_lt hdi hin
  have hBk:=hB (p+m) (by omega)
  have e16:sgb b (p+m+1)=16*sgb b (p+m)+13:=QbK
  obtain ⟨f,hf⟩:∃ f:Nat→Rat,∀ r,r < n→f r = -(A r i / A i i):=⟨fun r => -(A r i / A i i),fun _ _=>rfl⟩
  obtain ⟨hpos,hneg⟩:=QfM hA hgr hpd hin hdi hf
  have hlk:=fun k=>Qjn (k:=k) (dn:=La.setb dn i) hgr hsz hin h0 hf
  have hG0:La.Gram n A0 (La.lk (La.setb dn i) L f i 0) A:=hgr.congr fun r _ j _=>by rw [La.lk_ge (Nat.not_lt_zero r)]
  have hAi:∀ r,r < n→La.bl n A0 (L r) (L i)=A r i:=fun r hr=>(hgr r i hr hin).symm
  obtain ⟨Do,F,pg',cg',svs,rfl,hgv,hro,hgs⟩:=hg
  obtain ⟨hgp,-,hgc⟩:=Value.slice.inj hgv
  subst hgp hgc
  clear hgv
  have hsl:=hro.len.1
  have hm1:Do.Sublist ((Do++F.flatten)++(Dd++M)):=(List.sublist_append_left ..).trans (List.sublist_append_left ..)
  have hm2:F.flatten.Sublist ((Do++F.flatten)++(Dd++M)):=(List.sublist_append_right ..).trans (List.sublist_append_left ..)
  have rA:=hro.at (U:=U4) (M:=(Do++F.flatten)++(Dd++M)) hm1
  obtain ⟨q1,c1,us,x1,hv1,r1,hu1,hx1⟩:=hgs.read (i:=i) (j:=i) (M:=(Do++F.flatten)++(Dd++M)) (by omega) hin hm2
  try refine Je ?_
  refine QE ?_
  refine JO ?_
  refine Qo (fun E U' M'=>∃ (p' m':Nat) (P' N':Nat→Nat→Rat),La.Pdn n p' m' A0 (La.setb dn i) (La.lk (La.setb dn i) L f i n) P' N'∧p'+m'=p+m+1∧E=[(8,.int .i64 (i:Int)),(7,.slice (some ⟨bd,0,none⟩) n n),(6,.slice pg n cg),(2,.int .i64 (p':Int)),(3,.int .i64 (m':Int))]∧U4=U'∧M'=(Do++F.flatten)++(Dd++M)) ?_ ?_
  ·try refine Qb ?_
   refine sl_y (Qf sym rfl rfl rfl rfl rfl rfl (rA.lt hv1) (rA.get _ _ hv1).1) rfl rfl rfl rfl ?_; refine sl_y (Qk sym rfl rfl rfl rfl rA hv1 rfl) rfl rfl rfl rfl ?_
   try refine Qb ?_
   refine sl_y (Qf sym rfl rfl rfl rfl rfl rfl (r1.lt hu1) (r1.get _ _ hu1).1) rfl rfl rfl rfl ?_; refine sl_y (Qp sym rfl rfl rfl rfl rfl r1 hu1) rfl rfl rfl rfl ?_
   refine Qd rfl rfl rfl rfl rfl rfl (fun _=>Va (hx1.rep.up uc sb) (hx1.le (hsz i i hin hin) (by omega))) ?_
   rintro v U' D hU ⟨rfl,rfl,rfl⟩
   repeat (first|refine Qc ?_|refine Qa fun _=>?_|refine w_al fun _=>?_)
   refine Qi rfl (fun h1=>?_) (fun h1=>?_)
   ·try refine Qb ?_
    exact Qn (E':=[(8,.int .i64 (i:Int)),(7,.slice (some ⟨bd,0,none⟩) n n),(6,.slice pg n cg),(2,.int .i64 ((p:Int)+1)),(3,.int .i64 (m:Int))]) ⟨rfl,rfl,rfl,rfl,rfl,trivial⟩ ⟨p+1,m,_,_,hpos (Qiq h1),by omega,rfl,rfl,rfl⟩
   ·try refine Qb ?_
    exact Qn (E':=[(8,.int .i64 (i:Int)),(7,.slice (some ⟨bd,0,none⟩) n n),(6,.slice pg n cg),(2,.int .i64 (p:Int)),(3,.int .i64 ((m:Int)+1))]) ⟨rfl,rfl,rfl,rfl,rfl,trivial⟩ ⟨p,m+1,_,_,hneg (QiV h1 h0),by omega,rfl,rfl,rfl⟩
  rintro E U5 M' ⟨p',m',P',N',hpd',hpm,rfl,rfl,rfl⟩
  clear hpos hneg
  refine Yu (M':=Do++(F.flatten++(Dd++M))) (by rw [List.append_assoc]) ?_
  try refine Qb ?_
  refine QB (j:=i) hin rfl ?_
  refine QG (v := .bool true) (X:=Do++(F.flatten++M)) hrd pm hin (fun Dd2 hrd2=>?_)
  refine Qj (M':=Do++(F.flatten++(Dd2++M))) ?_ pm
  have hed2:El Vbl U4 (ds.set i (.bool true)) (La.setb dn i):=YH (fun k x hk hne=>by
   have:=hed k x hk
   show Vbl U4 x (La.setb dn i k)
   rw [La.setb_ne hne]; exact this) (by show Value.bool true = .bool (La.setb dn i i); rw [La.setb_at])
  generalize ds.set i (Value.bool true)=ds2 at hrd2 hed2
  clear hrd hed
  generalize Dd2=Dd at hrd2 ⊢
  generalize ds2=ds at hrd2 hed2
  have hrd:=hrd2
  have hed:=hed2
  clear hrd2 hed2
  try refine Qb ?_
  refine Ql (fun z E U' M'=>∃ (k:Nat) (B:Nat→Nat→Rat) (F:List MH),k≤n∧La.Gram n A0 (La.lk (La.setb dn i) L f i k) B∧Gs rO n U' svs F B∧E=[(51,.int .i64 (k:Int)),(50,.int .i64 (n:Int)),(8,.int .i64 (i:Int)),(7,.slice (some ⟨bd,0,none⟩) n n),(6,.slice pg n cg),(2,.int .i64 (p':Int)),(3,.int .i64 (m':Int))]∧ULe U4 U'∧M'=Do++(F.flatten++(Dd++M))∧z=n - k) (n0:=n)
   (E0:=[(51,.int .i64 ((0:Nat):Int)),(50,.int .i64 (n:Int)),(8,.int .i64 (i:Int)),(7,.slice (some ⟨bd,0,none⟩) n n),(6,.slice pg n cg),(2,.int .i64 (p':Int)),(3,.int .i64 (m':Int))]) ⟨rfl,rfl,rfl,rfl,rfl,rfl,rfl,trivial⟩ ⟨0,A,F,by omega,hG0,hgs,rfl,uc,rfl,rfl⟩ ?_
  clear hgs hm1 hm2 rA hu1 r1 hv1 hx1 F
  rintro z E U5 M' ⟨k,B,F,hk,hG,hg,rfl,hU5,rfl,rfl⟩
  try refine Qb ?_
  refine Qi rfl (fun h=>?_) (fun h=>?_)
  ·have hkn:k < n:=by omega
   have sB:∀ r c,r < n→c < n→Szq (B r c) (16*sgb b (p+m)+13):=fun r c hr hc=>by
    rw [hG r c hr hc]; exact (hlk k r c hr hc).mono (by omega)
   have hdi2:La.setb dn i i=true:=La.setb_at
   have rA:=hro.at (U:=U5) (M:=Do++(F.flatten++(Dd++M))) sb
   have rD:=hrd.at (U:=U5) (M:=Do++(F.flatten++(Dd++M))) sb
   obtain ⟨v1,hv0⟩:=rD.at hkn
   obtain rfl:v1=_:=hed _ _ hv0
   obtain ⟨q1,c1,us,x1,hv1,r1,hu1,hx1⟩:=hg.read (i:=k) (j:=i) (M:=Do++(F.flatten++(Dd++M))) (by omega) hin ((List.sublist_append_left ..).trans (List.sublist_append_right ..))
   obtain ⟨q2,c2,ws,x2,hv2,r2,hu2,hx2⟩:=hg.read (i:=i) (j:=i) (M:=Do++(F.flatten++(Dd++M))) (by omega) hin ((List.sublist_append_left ..).trans (List.sublist_append_right ..))
   have hBii:B i i=A i i:=by rw [hG i i hin hin,La.lk_done hdi2,hAi i hin]
   try refine Qb ?_
   rcases Bool.eq_false_or_eq_true (La.setb dn i k) with hdk | hdk
   ·rw [hdk] at hv0
    refine sl_y (Qf sym rfl rfl rfl rfl rfl rfl (rD.lt hv0) (rD.get _ _ hv0).1) rfl rfl rfl rfl ?_; refine sl_y (Qk sym rfl rfl rfl rfl rD hv0 rfl) rfl rfl rfl rfl ?_
    try refine Qb ?_
    exact Qg (E':=[(51,.int .i64 ((k:Int)+1)),(50,.int .i64 (n:Int)),(8,.int .i64 (i:Int)),(7,.slice (some ⟨bd,0,none⟩) n n),(6,.slice pg n cg),(2,.int .i64 (p':Int)),(3,.int .i64 (m':Int))]) (m:=n - (k+1)) ⟨rfl,rfl,rfl,rfl,rfl,rfl,rfl,trivial⟩ (by omega) ⟨k+1,B,F,by omega,hG.congr (La.lk_pass (.inl hdk)),hg,rfl,uc,rfl,rfl⟩
   ·rw [hdk] at hv0
    have hki:k≠i:=fun e=>by rw [e,hdi2] at hdk; cases hdk
    have hBki:B k i=A k i:=by rw [hG k i hkn hin,La.lk_done hdi2,La.lk_ge (Nat.lt_irrefl k),hAi k hkn]
    refine sl_y (Qf sym rfl rfl rfl rfl rfl rfl (rD.lt hv0) (rD.get _ _ hv0).1) rfl rfl rfl rfl ?_; refine sl_y (Qk sym rfl rfl rfl rfl rD hv0 rfl) rfl rfl rfl rfl ?_
    try refine Qb ?_
    refine sl_y (Qf sym rfl rfl rfl rfl rfl rfl (rA.lt hv1) (rA.get _ _ hv1).1) rfl rfl rfl rfl ?_; refine sl_y (Qk sym rfl rfl rfl rfl rA hv1 rfl) rfl rfl rfl rfl ?_
    try refine Qb ?_
    refine sl_y (Qf sym rfl rfl rfl rfl rfl rfl (r1.lt hu1) (r1.get _ _ hu1).1) rfl rfl rfl rfl ?_; refine sl_y (Qp sym rfl rfl rfl rfl rfl r1 hu1) rfl rfl rfl rfl ?_
    refine Qd rfl rfl rfl rfl rfl rfl (fun _=>Yd (hx1.rep.up uc sb) (hx1.le (sB k i hkn hin) (by omega))) ?_
    rintro v U' D hU ⟨rfl,rfl,rfl⟩
    repeat (first|refine Qc ?_|refine Qa fun _=>?_|refine w_al fun _=>?_)
    by_cases hz:B k i≠0
    ·rw [decide_eq_true hz]
     try refine Qb ?_
     refine Qt [0,1,2,3,4,5,6,7,8,9,10,11,12,13,14,15,16,17,18,19,20] sym (by kernel_rfl) ?_
     try refine Qb ?_
     refine sl_y (Qf sym rfl rfl rfl rfl rfl rfl (rA.lt hv1) (rA.get _ _ hv1).1) rfl rfl rfl rfl ?_; refine sl_y (Qk sym rfl rfl rfl rfl rA hv1 rfl) rfl rfl rfl rfl ?_
     try refine Qb ?_
     refine sl_y (Qf sym rfl rfl rfl rfl rfl rfl (r1.lt hu1) (r1.get _ _ hu1).1) rfl rfl rfl rfl ?_; refine sl_y (Qp sym rfl rfl rfl rfl rfl r1 hu1) rfl rfl rfl rfl ?_
     try refine Qb ?_
     refine sl_y (Qf sym rfl rfl rfl rfl rfl rfl (rA.lt hv2) (rA.get _ _ hv2).1) rfl rfl rfl rfl ?_; refine sl_y (Qk sym rfl rfl rfl rfl rA hv2 rfl) rfl rfl rfl rfl ?_
     try refine Qb ?_
     refine sl_y (Qf sym rfl rfl rfl rfl rfl rfl (r2.lt hu2) (r2.get _ _ hu2).1) rfl rfl rfl rfl ?_; refine sl_y (Qp sym rfl rfl rfl rfl rfl r2 hu2) rfl rfl rfl rfl ?_
     try refine Qb ?_
     refine Qd rfl rfl rfl rfl rfl rfl (fun _=>(QaG (hx1.rep.up uc sb) (hx1.le (sB k i hkn hin) (by omega)) (hx2.rep.up uc sb) (hx2.le (sB i i hin hin) (by omega))).settle) ?_
     rintro v U6 D3 hU6 ⟨rfl,U7,D4,⟨x3,e3,rfl,-,h3,-⟩,-,hU7,hs7⟩
     obtain ⟨rfl,h5⟩:=h3 (by rw [hBii]; exact h0)
     have hq:=h5.sett hs7
     clear h3 h5 hs7
     rw [List.nil_append]
     have sq:=(sB k i hkn hin).div (sB i i hin hin)
     repeat (first|refine Qc ?_|refine Qa fun _=>?_|refine w_al fun _=>?_)
     rename_i b10
     refine Qd rfl rfl rfl rfl rfl rfl (fun _=>(yJ (hq.rep.up uc sb) (hq.le sq (by omega))).settle) ?_
     rintro v Uh8 D hU ⟨rfl,_,_,⟨xh8,rfl,h8,-⟩,-,-,hs⟩
     replace h8:=h8.sett hs
     clear hs
     repeat (first|refine Qc ?_|refine Qa fun _=>?_|refine w_al fun _=>?_)
     repeat (first|refine Qc ?_|refine Qa fun _=>?_|refine w_al fun _=>?_)
     have sT:=sq.neg
     have hxf:=h8
     have hft:f k = -(B k i / B i i):=by rw [hf k hkn,hBii,hBki]
     rw [← hft] at hxf sT
     clear h8 hq sq
     generalize xh8=xf at hxf ⊢
     have hop:=hG.op (t:=f k) hkn hin (Ne.symm hki)
     replace hg:=hg.up (U':=Uh8) uc
     try refine Qb ?_
     refine Ql (fun z E U' M'=>∃ (c:Nat) (F:List MH),c≤n∧Gs rO n U' svs F (fun a z=>if a=k∧z < c then B k z+f k*B i z else B a z)∧E=[(91,.int .i64 (c:Int)),(90,.int .i64 (n:Int)),(9,.int .i64 (k:Int)),(10,.pointer (some ⟨b10,0,none⟩)),(51,.int .i64 (k:Int)),(50,.int .i64 (n:Int)),(8,.int .i64 (i:Int)),(7,.slice (some ⟨bd,0,none⟩) n n),(6,.slice pg n cg),(2,.int .i64 (p':Int)),(3,.int .i64 (m':Int))]∧ULe Uh8 U'∧M'=(b10,.var xf.v,TR)::(Do++(F.flatten++(Dd++M)))∧z=n - c) (n0:=n)
      (E0:=[(91,.int .i64 ((0:Nat):Int)),(90,.int .i64 (n:Int)),(9,.int .i64 (k:Int)),(10,.pointer (some ⟨b10,0,none⟩)),(51,.int .i64 (k:Int)),(50,.int .i64 (n:Int)),(8,.int .i64 (i:Int)),(7,.slice (some ⟨bd,0,none⟩) n n),(6,.slice pg n cg),(2,.int .i64 (p':Int)),(3,.int .i64 (m':Int))]) ⟨rfl,rfl,rfl,rfl,rfl,rfl,rfl,rfl,rfl,rfl,rfl,trivial⟩ ⟨0,F,by omega,by simpa using hg,rfl,uc,rfl,rfl⟩ ?_
     clear hg
     rintro z E U6 M' ⟨c,F,hc,hg,rfl,hU6,rfl,rfl⟩
     try refine Qb ?_
     refine Qi rfl (fun h=>?_) (fun h=>?_)
     ·have hcn:c < n:=by omega
      have rA:=hro.at (U:=U6) (M:=(b10,.var xf.v,TR)::(Do++(F.flatten++(Dd++M)))) sb
      obtain ⟨q,c',vs,Di,hvi,hFi,hiF,hR,hput⟩:=hg.put1 (i:=k) (j:=c) (by omega)
      obtain ⟨q1,c1,us,x1,hv1,r1,hu1,hx1⟩:=hg.read (i:=k) (j:=c) (M:=(b10,.var xf.v,TR)::(Do++(F.flatten++(Dd++M)))) (by omega) hcn (((List.sublist_append_left ..).trans (List.sublist_append_right ..)).trans (List.sublist_cons_self ..))
      obtain ⟨q2,c2,ws,x2,hv2,r2,hu2,hx2⟩:=hg.read (i:=i) (j:=c) (M:=(b10,.var xf.v,TR)::(Do++(F.flatten++(Dd++M)))) (by omega) hcn (((List.sublist_append_left ..).trans (List.sublist_append_right ..)).trans (List.sublist_cons_self ..))
      rw [if_neg (by omega)] at hx1
      rw [if_neg (by omega)] at hx2
      try refine Qb ?_
      refine Qx [22,23] [0,1,2,3,4,5,6,7,8,9,10,11,12,13,14,15,16,17,18,19,20,21,22,23] sym (by kernel_rfl) ?_
      try refine Qb ?_
      refine sl_y (Qf sym rfl rfl rfl rfl rfl rfl (rA.lt hvi) (rA.get _ _ hvi).1) rfl rfl rfl rfl ?_; refine sl_y (Qk sym rfl rfl rfl rfl rA hvi rfl) rfl rfl rfl rfl ?_
      try refine Qb ?_
      refine sl_y (Qf sym rfl rfl rfl rfl rfl rfl (rA.lt hv1) (rA.get _ _ hv1).1) rfl rfl rfl rfl ?_; refine sl_y (Qk sym rfl rfl rfl rfl rA hv1 rfl) rfl rfl rfl rfl ?_
      try refine Qb ?_
      refine sl_y (Qf sym rfl rfl rfl rfl rfl rfl (r1.lt hu1) (r1.get _ _ hu1).1) rfl rfl rfl rfl ?_; refine sl_y (Qp sym rfl rfl rfl rfl rfl r1 hu1) rfl rfl rfl rfl ?_
      try refine Qb ?_
      refine sl_y (Qf sym rfl rfl rfl rfl rfl rfl (rA.lt hv2) (rA.get _ _ hv2).1) rfl rfl rfl rfl ?_; refine sl_y (Qk sym rfl rfl rfl rfl rA hv2 rfl) rfl rfl rfl rfl ?_
      try refine Qb ?_
      refine sl_y (Qf sym rfl rfl rfl rfl rfl rfl (r2.lt hu2) (r2.get _ _ hu2).1) rfl rfl rfl rfl ?_; refine sl_y (Qp sym rfl rfl rfl rfl rfl r2 hu2) rfl rfl rfl rfl ?_
      try refine Qb ?_
      refine Qd rfl rfl rfl rfl rfl rfl (fun _=>(YM (hxf.rep.up uc sb) (hxf.le sT (by omega)) (hx2.rep.up uc sb) (hx2.le (sB i c hin hcn) (by omega))).settle) ?_
      rintro v Uh3 D hU ⟨rfl,_,_,⟨xh3,rfl,h3,-⟩,-,-,hs⟩
      replace h3:=h3.sett hs
      clear hs
      repeat (first|refine Qc ?_|refine Qa fun _=>?_|refine w_al fun _=>?_)
      refine Qd rfl rfl rfl rfl rfl rfl (fun _=>(YP (hx1.rep.up uc sb) (hx1.le (sB k c hkn hcn) (by omega)) (h3.rep.up uc sb) (h3.le (sT.mul (sB i c hin hcn)) (by omega))).settle) ?_
      rintro v Uh4 D hU ⟨rfl,_,_,⟨xh4,rfl,h4,-⟩,-,-,hs⟩
      replace h4:=h4.sett hs
      clear hs
      repeat (first|refine Qc ?_|refine Qa fun _=>?_|refine w_al fun _=>?_)
      refine QB (j:=c) hcn (hR.some (by omega)) ?_
      refine QG (v:=xh4.v) (X:=(b10,.var xf.v,TR)::(Do++(((F.take k).flatten++(F.drop (k+1)).flatten)++(Dd++M)))) hR (QY (B:=(b10,.var xf.v,TR)::Do) (pickF hFi)) hcn (fun D2 hr2=>?_)
      refine Qj ?_ (QY (B:=(b10,.var xf.v,TR)::Do) (putF hiF)).symm
      try refine Qb ?_
      exact Qg (E':=[(91,.int .i64 ((c:Int)+1)),(90,.int .i64 (n:Int)),(9,.int .i64 (k:Int)),(10,.pointer (some ⟨b10,0,none⟩)),(51,.int .i64 (k:Int)),(50,.int .i64 (n:Int)),(8,.int .i64 (i:Int)),(7,.slice (some ⟨bd,0,none⟩) n n),(6,.slice pg n cg),(2,.int .i64 (p':Int)),(3,.int .i64 (m':Int))]) (m:=n - (c+1)) ⟨rfl,rfl,rfl,rfl,rfl,rfl,rfl,rfl,rfl,rfl,rfl,trivial⟩ (by omega)
       ⟨c+1,F.set k D2,by omega,Gs.cong2 (hput Uh4 D2 xh4 (B k c+f k*B i c) uc hr2 h4) (fun a=>by
        funext z
        by_cases e:a=k∧z=c
        ·rw [if_pos e,if_pos (by omega),e.2]
        ·rw [if_neg e]
         by_cases e2:a=k∧z < c
         ·rw [if_pos e2,if_pos (by omega)]
         ·rw [if_neg e2,if_neg (by omega)]),rfl,uc,rfl,rfl⟩
     have e:n=c:=by omega
     subst e
     replace hg:=hg.congr (B:=La.rop B k i (f k)) (n:=n) hsl (fun _ _ _ _ h=>h.len.1) (fun a z _ hz=>by
      unfold La.rop
      by_cases e:a=k
      ·rw [if_pos ⟨e,hz⟩,if_pos e]
      ·rw [if_neg fun h=>e h.1,if_neg e])
     have sC:∀ r c,r < n→c < n→Szq (La.rop B k i (f k) r c) (64*sgb b (p+m)+53):=fun r c hr hc=>by
      unfold La.rop
      split
      ·exact ((sB k c hkn hc).add (sT.mul (sB i c hin hc))).mono (by omega)
      ·exact (sB r c hr hc).mono (by omega)
     generalize La.rop B k i (f k)=C at hg sC hop
     clear h hc
     try refine Qb ?_
     refine Ql (fun z E U' M'=>∃ (c:Nat) (F:List MH),c≤n∧Gs rO n U' svs F (fun a z=>if z=k∧a < c then C a k+f k*C a i else C a z)∧E=[(120,.int .i64 (c:Int)),(119,.int .i64 (n:Int)),(9,.int .i64 (k:Int)),(10,.pointer (some ⟨b10,0,none⟩)),(51,.int .i64 (k:Int)),(50,.int .i64 (n:Int)),(8,.int .i64 (i:Int)),(7,.slice (some ⟨bd,0,none⟩) n n),(6,.slice pg n cg),(2,.int .i64 (p':Int)),(3,.int .i64 (m':Int))]∧ULe Uh8 U'∧M'=(b10,.var xf.v,TR)::(Do++(F.flatten++(Dd++M)))∧z=n - c) (n0:=n)
      (E0:=[(120,.int .i64 ((0:Nat):Int)),(119,.int .i64 (n:Int)),(9,.int .i64 (k:Int)),(10,.pointer (some ⟨b10,0,none⟩)),(51,.int .i64 (k:Int)),(50,.int .i64 (n:Int)),(8,.int .i64 (i:Int)),(7,.slice (some ⟨bd,0,none⟩) n n),(6,.slice pg n cg),(2,.int .i64 (p':Int)),(3,.int .i64 (m':Int))]) ⟨rfl,rfl,rfl,rfl,rfl,rfl,rfl,rfl,rfl,rfl,rfl,trivial⟩ ⟨0,F,by omega,by simpa using hg,rfl,uc,rfl,rfl⟩ ?_
     clear hg
     rintro z E U6 M' ⟨c,F,hc,hg,rfl,hU6,rfl,rfl⟩
     try refine Qb ?_
     refine Qi rfl (fun h=>?_) (fun h=>?_)
     ·have hcn:c < n:=by omega
      have rA:=hro.at (U:=U6) (M:=(b10,.var xf.v,TR)::(Do++(F.flatten++(Dd++M)))) sb
      obtain ⟨q,c',vs,Di,hvi,hFi,hiF,hR,hput⟩:=hg.put1 (i:=c) (j:=k) (by omega)
      obtain ⟨q1,c1,us,x1,hv1,r1,hu1,hx1⟩:=hg.read (i:=c) (j:=k) (M:=(b10,.var xf.v,TR)::(Do++(F.flatten++(Dd++M)))) (by omega) hkn (((List.sublist_append_left ..).trans (List.sublist_append_right ..)).trans (List.sublist_cons_self ..))
      obtain ⟨q2,c2,ws,x2,hv2,r2,hu2,hx2⟩:=hg.read (i:=c) (j:=i) (M:=(b10,.var xf.v,TR)::(Do++(F.flatten++(Dd++M)))) (by omega) hin (((List.sublist_append_left ..).trans (List.sublist_append_right ..)).trans (List.sublist_cons_self ..))
      rw [if_neg (by omega)] at hx1
      rw [if_neg (by omega)] at hx2
      try refine Qb ?_
      refine Qx [22,23] [0,1,2,3,4,5,6,7,8,9,10,11,12,13,14,15,16,17,18,19,20,21,22,23] sym (by kernel_rfl) ?_
      try refine Qb ?_
      refine sl_y (Qf sym rfl rfl rfl rfl rfl rfl (rA.lt hvi) (rA.get _ _ hvi).1) rfl rfl rfl rfl ?_; refine sl_y (Qk sym rfl rfl rfl rfl rA hvi rfl) rfl rfl rfl rfl ?_
      try refine Qb ?_
      refine sl_y (Qf sym rfl rfl rfl rfl rfl rfl (rA.lt hv1) (rA.get _ _ hv1).1) rfl rfl rfl rfl ?_; refine sl_y (Qk sym rfl rfl rfl rfl rA hv1 rfl) rfl rfl rfl rfl ?_
      try refine Qb ?_
      refine sl_y (Qf sym rfl rfl rfl rfl rfl rfl (r1.lt hu1) (r1.get _ _ hu1).1) rfl rfl rfl rfl ?_; refine sl_y (Qp sym rfl rfl rfl rfl rfl r1 hu1) rfl rfl rfl rfl ?_
      try refine Qb ?_
      refine sl_y (Qf sym rfl rfl rfl rfl rfl rfl (rA.lt hv2) (rA.get _ _ hv2).1) rfl rfl rfl rfl ?_; refine sl_y (Qk sym rfl rfl rfl rfl rA hv2 rfl) rfl rfl rfl rfl ?_
      try refine Qb ?_
      refine sl_y (Qf sym rfl rfl rfl rfl rfl rfl (r2.lt hu2) (r2.get _ _ hu2).1) rfl rfl rfl rfl ?_; refine sl_y (Qp sym rfl rfl rfl rfl rfl r2 hu2) rfl rfl rfl rfl ?_
      try refine Qb ?_
      refine Qd rfl rfl rfl rfl rfl rfl (fun _=>(YM (hxf.rep.up uc sb) (hxf.le sT (by omega)) (hx2.rep.up uc sb) (hx2.le (sC c i hcn hin) (by omega))).settle) ?_
      rintro v Uh3 D hU ⟨rfl,_,_,⟨xh3,rfl,h3,-⟩,-,-,hs⟩
      replace h3:=h3.sett hs
      clear hs
      repeat (first|refine Qc ?_|refine Qa fun _=>?_|refine w_al fun _=>?_)
      refine Qd rfl rfl rfl rfl rfl rfl (fun _=>(YP (hx1.rep.up uc sb) (hx1.le (sC c k hcn hkn) (by omega)) (h3.rep.up uc sb) (h3.le (sT.mul (sC c i hcn hin)) (by omega))).settle) ?_
      rintro v Uh4 D hU ⟨rfl,_,_,⟨xh4,rfl,h4,-⟩,-,-,hs⟩
      replace h4:=h4.sett hs
      clear hs
      repeat (first|refine Qc ?_|refine Qa fun _=>?_|refine w_al fun _=>?_)
      refine QB (j:=k) hkn (hR.some (by omega)) ?_
      refine QG (v:=xh4.v) (X:=(b10,.var xf.v,TR)::(Do++(((F.take c).flatten++(F.drop (c+1)).flatten)++(Dd++M)))) hR (QY (B:=(b10,.var xf.v,TR)::Do) (pickF hFi)) hkn (fun D2 hr2=>?_)
      refine Qj ?_ (QY (B:=(b10,.var xf.v,TR)::Do) (putF hiF)).symm
      try refine Qb ?_
      exact Qg (E':=[(120,.int .i64 ((c:Int)+1)),(119,.int .i64 (n:Int)),(9,.int .i64 (k:Int)),(10,.pointer (some ⟨b10,0,none⟩)),(51,.int .i64 (k:Int)),(50,.int .i64 (n:Int)),(8,.int .i64 (i:Int)),(7,.slice (some ⟨bd,0,none⟩) n n),(6,.slice pg n cg),(2,.int .i64 (p':Int)),(3,.int .i64 (m':Int))]) (m:=n - (c+1)) ⟨rfl,rfl,rfl,rfl,rfl,rfl,rfl,rfl,rfl,rfl,rfl,trivial⟩ (by omega)
       ⟨c+1,F.set c D2,by omega,Gs.cong2 (hput Uh4 D2 xh4 (C c k+f k*C c i) uc hr2 h4) (fun a=>by
        funext z
        by_cases e:a=c∧z=k
        ·rw [if_pos e,if_pos (by omega),e.1]
        ·rw [if_neg e]
         by_cases e2:z=k∧a < c
         ·rw [if_pos e2,if_pos (by omega)]
         ·rw [if_neg e2,if_neg (by omega)]),rfl,uc,rfl,rfl⟩
     have e:n=c:=by omega
     subst e
     try refine Qb ?_
     refine QU (M':=Do++(F.flatten++(Dd++M))) (ULe.refl _) (List.sublist_cons_self ..) ?_
     exact Qg (E':=[(51,.int .i64 ((k:Int)+1)),(50,.int .i64 (n:Int)),(8,.int .i64 (i:Int)),(7,.slice (some ⟨bd,0,none⟩) n n),(6,.slice pg n cg),(2,.int .i64 (p':Int)),(3,.int .i64 (m':Int))]) (m:=n - (k+1)) ⟨rfl,rfl,rfl,rfl,rfl,rfl,rfl,trivial⟩ (by omega) ⟨k+1,La.cop C k i (f k),F,by omega,hop.congr (La.lk_next hdk hdi2),hg.congr (n:=n) hsl (fun _ _ _ _ h=>h.len.1) (fun a z ha _=>by
      unfold La.cop
      by_cases e:z=k
      ·rw [if_pos ⟨e,ha⟩,if_pos e]
      ·rw [if_neg fun h=>e h.1,if_neg e]),rfl,uc,rfl,rfl⟩
    ·rw [decide_eq_false hz]
     have hz0:f k=0:=by rw [hf k hkn,← hBki,Classical.not_not.1 hz,Rat.div_def,Rat.zero_mul]; rfl
     try refine Qb ?_
     exact Qg (E':=[(51,.int .i64 ((k:Int)+1)),(50,.int .i64 (n:Int)),(8,.int .i64 (i:Int)),(7,.slice (some ⟨bd,0,none⟩) n n),(6,.slice pg n cg),(2,.int .i64 (p':Int)),(3,.int .i64 (m':Int))]) (m:=n - (k+1)) ⟨rfl,rfl,rfl,rfl,rfl,rfl,rfl,trivial⟩ (by omega) ⟨k+1,B,F,by omega,hG.congr (La.lk_pass (.inr hz0)),hg,rfl,uc,rfl,rfl⟩
  ·have e:k=n:=by omega
   subst e
   try refine Qb ?_
   have hgo:Go rO k k U5 (Do++F.flatten) (.slice pg k cg) B:=⟨Do,F,pg,cg,svs,rfl,rfl,hro,hg⟩
   have hedU:El Vbl U5 ds (La.setb dn i):=hed
   have sB:∀ r c,r < k→c < k→Szq (B r c) (sgb b (p'+m')):=fun r c hr hc=>by
    rw [hG r c hr hc,hpm,e16]; exact (hlk k r c hr hc).mono (by omega)
   refine JP rfl rfl rfl rfl rfl rfl ((QbY (X:=Dd++M) (b:=sgb b (p'+m')) hgo sB (hrd.at (List.sublist_append_left ..)) hedU (by rw [hpm,e16]; omega) hn).perm pm) ?_
   rintro v7 U7 M7 hU7 ⟨-,t7,A7,D7,rfl,rfl,hg7,ht7⟩
   obtain ⟨L7,k1,k2,k3,k4⟩:=QdX hA hG hpd' sB ht7
   try refine Qb ?_
   have hcl':=La.cnt_le (La.setb dn i) k
   have hnum':=hpd'.num
   exact Qg (E':=[(8,.int .i64 t7),(7,.slice (some ⟨bd,0,none⟩) k k),(6,.slice pg k cg),(2,.int .i64 (p':Int)),(3,.int .i64 (m':Int))]) (m:=k - (p'+m')) ⟨rfl,rfl,rfl,rfl,rfl,trivial⟩ (by omega)
    ⟨p',m',_,A7,L7,P',N',t7,D7,ds,Dd,k1,k2,k3,k4,hg7,hrd,hed,rfl,uc,rfl,rfl⟩
 ·have hz:∀ r c,r < n→c < n→dn r=false→dn c=false→A r c=0:=by
   rcases htn with ⟨-,h1⟩ | ⟨i,rfl,-⟩
   ·exact h1
   ·omega
  obtain ⟨Do,F,pg',cg',svs,rfl,hgv,hro,hgs⟩:=hg
  try refine Qb ?_
  exact Qe [] sym rfl (.cons (.tmp rfl) (.cons (.tmp rfl) (.cons (.tmp rfl) (.cons (.tmp rfl) .nil)))) uc sb (.inl rfl) ⟨rfl,fun _=>⟨p,m,n,P,N,_,hpd.sig fun r c hr hc h1 h2=>by rw [← hgr r c hr hc]; exact hz r c hr hc h1 h2,by omega,rfl⟩,fun h=>absurd hA h⟩
end Go.Proofs.YthnnlgjlhnmhnaaGreat

/- Walks of reference 09: values, symmetry, signatures. -/
namespace Go.Proofs.YthnnlgjlhnmhnaaGreat
open Go.Hp
variable {G:World} {U U':UH} {M M':MH}
end Go.Proofs.YthnnlgjlhnmhnaaGreat

/- Walks of reference 09: signatures. -/
namespace Go.Proofs.YthnnlgjlhnmhnaaGreat
open Go.Hp
variable {G:World} {U U':UH} {M M':MH}
end Go.Proofs.YthnnlgjlhnmhnaaGreat

/- The law of layer 9 on signatures. -/
namespace Go.Proofs.YthnnlgjlhnmhnaaGreat
open Go.Hp
variable {G:World} {U U':UH} {M M':MH}
end Go.Proofs.YthnnlgjlhnmhnaaGreat
