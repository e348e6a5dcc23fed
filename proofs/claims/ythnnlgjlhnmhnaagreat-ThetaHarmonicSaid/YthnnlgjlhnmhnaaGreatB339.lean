/- Walks of layer 36: Harmonic. -/
import Derived.Test.YthnnlgjlhnmhnaaGreatM142
namespace Go.Proofs.YthnnlgjlhnmhnaaGreat
open Go.Hp
variable {G:World} {U U':UH} {M:MH}
theorem JR:TI.ok Tryz.prog 62 ⟨.other,8,64,kyv (List.replicate 8 0)⟩:=⟨by kernel_rfl,by kernel_rfl⟩
theorem JH:Tryz.prog.underlying 62=some (.array 8 TInt):=by kernel_rfl
theorem Jh:TI.ok Tryz.prog TInt ⟨.int .i64,1,8,.int .i64 0⟩:=sym.at rfl
theorem QaT:KeyT Tryz.prog 62 (Arr 8):=Qhn JH (by kernel_rfl) (by kernel_rfl)
theorem jT:Tryz.prog.underlying 60=some (.map 62 TR):=by kernel_rfl
theorem Qip:∀ w,(zeroValue TR).run Tryz.prog w = .ok zeroQV.v w:=fun w=>(sym.at (t:=TR) rfl).run_zero w
set_option maxHeartbeats 4000000 in
theorem QaU {N c np kb:Nat} {r:Int} {p:Option Addr} {vp:Value} {vs:List Value} {f:Nat→Int} {ne:Nat→Nat} {e:Nat→Nat→Int} {qq:Nat→Rat} (rw1:RowAt U [] 1 p N vs) (el:El Vz U vs f) (hN:N≤9223372036854775807)
  (hpl:Pol kb U [] vp np ne e qq) (hnp:np≤9223372036854775807) (hne:∀ i,i < np→ne i≤9223372036854775807) (hb1:1≤kb) (hb2:kb≤100) :
  Ct Tryz.prog 7 [.agg #[.int .i64 r,.slice p N c],vp] G U M fun v U' D=>(chk r N f≠0→v = .tuple #[.bool false,.int .i64 (chk r N f)]) ∧
   (∀ n:Nat,r=(n:Int)→chk r N f=0→(perr n np ne e≠0→v = .tuple #[.bool false,.int .i64 (perr n np ne e)])∧(perr n np ne e=0→∃ X,Inv n f X∧∃ hb:Bool,v = .tuple #[.bool hb,.int .i64 0]∧(hb=true↔Hm n np e qq X)))∧D=[]:=by
 obtain ⟨pp,cp,ms,hpe,hcp,rm,em⟩:=id hpl
 subst hpe
 refine Qh Tryz.func7 rfl rfl rfl rfl ?_
 repeat (first|refine Qc ?_|refine Qa fun _=>?_|refine w_al fun _=>?_)
 rename_i b2
 refine Qd rfl rfl rfl rfl rfl rfl (fun _=>qz (rw1.up uc (List.nil_sublist _)) (el.up KeptC.out uc) hN) ?_
 rintro v1 U1 D hU1 ⟨rfl,-,rfl⟩
 rw [List.nil_append]
 repeat (first|refine Qc ?_|refine Qa fun _=>?_|refine w_al fun _=>?_)
 refine QK rfl (fun h=>?_) (fun h=>?_)
 ·repeat (first|refine Qc ?_|refine Qa fun _=>?_|refine w_al fun _=>?_)
  exact Qe [] sym rfl (.cons (.tmp rfl) (.cons (.tmp rfl) .nil)) uc sb (.inl rfl) ⟨fun _=>rfl,fun _ _ h0=>absurd h0 h,rfl⟩
 obtain ⟨n,rfl,hn1,hn8,rfl,hb,he,hp⟩:=Jm h
 rw [h]
 repeat (first|refine Qc ?_|refine Qa fun _=>?_|refine w_al fun _=>?_)
 refine Qd rfl rfl rfl rfl rfl rfl (fun _=>qV (hpl.up uc (List.nil_sublist _)) hnp hne hn8) ?_
 rintro v2 U2 D2 hU2 ⟨rfl,rfl,rfl⟩
 rw [List.nil_append]
 repeat (first|refine Qc ?_|refine Qa fun _=>?_|refine w_al fun _=>?_)
 refine QK rfl (fun h3=>?_) (fun h3=>?_)
 ·have hc8:∀ n':Nat,(n:Int)=(n':Int)→(0:Int)=0→(perr n' np ne e≠0→tup [.bool false,.int .i64 (perr n np ne e)] = .tuple #[.bool false,.int .i64 (perr n' np ne e)])∧(perr n' np ne e=0→∃ X,Inv n' f X∧∃ hb:Bool,tup [.bool false,.int .i64 (perr n np ne e)] = .tuple #[.bool hb,.int .i64 0]∧(hb=true↔Hm n' np e qq X)):=fun n' e1 _=>by
   obtain rfl:n=n':=Int.ofNat.inj e1
   exact ⟨fun _=>rfl,fun h4=>absurd h4 h3⟩
  repeat (first|refine Qc ?_|refine Qa fun _=>?_|refine w_al fun _=>?_)
  exact Qe [] sym rfl (.cons (.tmp rfl) (.cons (.tmp rfl) .nil)) uc sb (.inl rfl) ⟨fun h=>absurd rfl h,hc8,rfl⟩
 obtain ⟨h60,hfi⟩:=VH h3
 have hqs:=QcZ hpl hb1
 have hbk:np*(kb+1)≤60*101:=Nat.mul_le_mul h60 (by omega)
 repeat (first|refine Qc ?_|refine Qa fun _=>?_|refine w_al fun _=>?_)
 refine vw rfl rfl rfl rfl rfl (fun b8 hb8=>?_)
 have hUa:ULe U1 (U1.upd b8 (.map #[] 0)):=ULe.upd hb8
 repeat (first|refine Qc ?_|refine Qa fun _=>?_|refine w_al fun _=>?_)
 try refine Qu (M':=(b2,.var (.agg #[.int .i64 (n:Int),.slice p (n*n) c]),24)::M) (ULe.refl _) sbk ?_
 refine Ql (fun z E U' M'=>∃ (i:Nat) (es:Array MapEntry) (ck:Nat),i≤np∧U' b8=some (.map es ck)∧MapC (Arr 8) es ck∧MapQ 8 U' es (fsm i n e qq)∧(∀ x ∈ es.toList,∃ j,j < i∧x.key=kyv (kyl n (e j)))∧(∀ j,j < i→∃ x ∈ es.toList,x.key=kyv (kyl n (e j)))∧es.size≤i∧E=[(40,.int .i64 (i:Int)),(39,.int .i64 (np:Int)),(38,.slice pp np cp),(8,.map (some b8)),(2,.pointer (some ⟨b2,0,none⟩)),(1,.slice pp np cp)]∧ULe U1 U'∧M'=(b2,.var (.agg #[.int .i64 (n:Int),.slice p (n*n) c]),24)::M∧z=np - i) (n0:=np - 0) (E0:=[(40,.int .i64 ((0:Nat):Int)),(39,.int .i64 (np:Int)),(38,.slice pp np cp),(8,.map (some b8)),(2,.pointer (some ⟨b2,0,none⟩)),(1,.slice pp np cp)]) ⟨rfl,rfl,rfl,rfl,rfl,rfl,trivial⟩ ⟨0,#[],0,by omega,VP,MapC.nil,MapQ.nil,(fun x hx=>by cases hx),(fun j hj=>absurd hj (Nat.not_lt_zero j)),Nat.zero_le _,rfl,uc,rfl,rfl⟩ ?_
 rintro z E U2 M' ⟨i,es,ck,hi,hmap,hC,hQ,hk1,hk2,hesz,rfl,hU2,rfl,rfl⟩
 try refine Qb ?_
 refine Qi rfl (fun h4=>?_) (fun h4=>?_)
 ·have hin:i < np:=by omega
  obtain ⟨v1,hv1⟩:=rm.at hin
  have hm1:=em i v1 hv1
  obtain ⟨pe,ce,xs,x,rfl,hce,rx,ex,hx,hxl⟩:=id hm1
  obtain ⟨hni,hfe⟩:=hfi i hin
  rw [hni] at rx hce hv1
  repeat (first|refine Qc ?_|refine Qa fun _=>?_|refine w_al fun _=>?_)
  refine sl_y (Qf sym rfl rfl rfl rfl rfl rfl ((rm.up uc sb).lt hv1) ((rm.up uc sb).get _ _ hv1).1) rfl rfl rfl rfl ?_; refine sl_y (Qp sym rfl rfl rfl rfl rfl (rm.up uc sb) hv1) rfl rfl rfl rfl ?_
  repeat (first|refine Qc ?_|refine Qa fun _=>?_|refine w_al fun _=>?_)
  rename_i b10
  refine VD rfl JR rfl rfl rfl (fun b11=>?_)
  refine Qj (M':=(b11,.var (kyv (List.replicate 8 0)),62)::(b10,.var (.agg #[.slice pe n ce,.bool x.num.neg,.slice x.num.p x.num.n x.num.c,.bool x.den.neg,.slice x.den.p x.den.n x.den.c]),50)::(b2,.var (.agg #[.int .i64 (n:Int),.slice p (n*n) c]),24)::M) ?_ (List.Perm.refl _)
  try refine Qb ?_
  refine Qx [3] [0,1,2,3] sym (by kernel_rfl) ?_
  try refine Qb ?_
  refine sl_y (Qjg rfl rfl JH Jh rfl) rfl rfl rfl rfl ?_
  try refine Qb ?_
  have hxs:=QhS ex rx.len
  refine QfG (ys:=(List.range n).map (e i)) 0 sym rfl rfl rfl rfl rfl rfl (by rw [← hxs]; exact rx.up uc (List.nil_sublist _)) (by omega) hn8 rfl rfl rfl rfl rfl ?_
  have hkl:=qD (e:=e i) hn8
  refine Qj (M':=(b11,.var (kyv (kyl n (e i))),62)::(b10,.var (.agg #[.slice pe n ce,.bool x.num.neg,.slice x.num.p x.num.n x.num.c,.bool x.den.neg,.slice x.den.p x.den.n x.den.c]),50)::(b2,.var (.agg #[.int .i64 (n:Int),.slice p (n*n) c]),24)::M) ?_ (List.Perm.refl _)
  try refine Qb ?_
  refine Qx [8] [0,1,2,3,4,5,6,7,8] sym (by kernel_rfl) ?_
  try refine Qb ?_
  refine sl_y (YC 0 rfl rfl rfl JH JR rfl hkl) rfl rfl rfl rfl ?_
  try refine Qb ?_
  refine sl_y (YC 0 rfl rfl rfl JH JR rfl hkl) rfl rfl rfl rfl ?_
  have hib:i*(kb+1)≤60*101:=Nat.mul_le_mul (by omega) (by omega)
  refine QbA (κ:=kyl n (e i)) rfl rfl rfl jT QaT hkl Qip hmap hC hQ (Qfq hqs hb1 hi _) rfl rfl rfl rfl (fun x5 hx5 hl5=>?_)
  try refine Qb ?_
  refine Qd rfl rfl rfl rfl rfl rfl (fun _=>(YP (hx5.up uc (List.nil_sublist _)) ⟨by have:=hl5.1; omega,by have:=hl5.2; omega⟩ (hx.up uc (List.nil_sublist _)) ⟨by have:=hxl.1; omega,by have:=hxl.2; omega⟩).settle) ?_
  rintro v Uh55 D hU ⟨rfl,_,_,⟨xh55,rfl,h55,-⟩,-,-,hs⟩
  replace h55:=h55.sett hs
  clear hs
  repeat (first|refine Qc ?_|refine Qa fun _=>?_|refine w_al fun _=>?_)
  have hmap5:Uh55 b8=some (.map es ck):=(uc:ULe U2 Uh55) _ _ hmap
  refine jk rfl rfl rfl rfl jT QaT (QaX hkl) hmap5 hC rfl rfl rfl (fun es2 ck2 hC2 hS2 hs2=>?_)
  have hue:UE Uh55 (Uh55.upd b8 (.map es2 ck2)):=vK hmap5 (fun c t x h=>by cases h)
  have hQ2:MapQ 8 (Uh55.upd b8 (.map es2 ck2)) es2 (fsm (i+1) n e qq):=by
   have h9:=((hQ.ue (ULe.ue (uc:ULe U2 Uh55))).ue hue).set hS2 ⟨xh55,rfl,h55.ue hue⟩
   have h10:(fun μ=>if μ=kyl n (e i) then fsm i n e qq (kyl n (e i))+qq i else fsm i n e qq μ)=fsm (i+1) n e qq:=funext fun μ=>by
    show _=La.sm i _+(if kyl n (e i)=μ then qq i else 0)
    by_cases h11:μ=kyl n (e i)
    ·rw [if_pos h11,if_pos h11.symm,h11]; rfl
    ·rw [if_neg h11,if_neg (Ne.symm h11),Rat.add_zero]; rfl
   rw [← h10]; exact h9
  have hUz:ULe U1 (Uh55.upd b8 (.map es2 ck2)):=jy uc hb8
  have hk1':∀ x ∈ es2.toList,∃ j,j < i+1∧x.key=kyv (kyl n (e j)):=fun x hx=>by
   rcases (hS2 x.key x.val).1 ⟨x,hx,rfl,rfl⟩ with ⟨h9,-⟩ | ⟨-,y,h9,h10,-⟩
   ·exact ⟨i,by omega,h9⟩
   ·obtain ⟨j,h11,h12⟩:=hk1 y h9
    exact ⟨j,by omega,by rw [← h10]; exact h12⟩
  have hk2':∀ j,j < i+1→∃ x ∈ es2.toList,x.key=kyv (kyl n (e j)):=fun j hj=>by
   by_cases h9:kyv (kyl n (e j))=kyv (kyl n (e i))
   ·obtain ⟨x,h10,h11,-⟩:=(hS2 _ _).2 (.inl ⟨rfl,rfl⟩)
    exact ⟨x,h10,by rw [h9]; exact h11⟩
   ·have hji:j < i:=by
     rcases Nat.lt_or_eq_of_le (Nat.le_of_lt_succ hj) with h10 | h10
     ·exact h10
     ·exact absurd (by rw [h10]) h9
    obtain ⟨y,h10,h11⟩:=hk2 j hji
    obtain ⟨x,h12,h13,-⟩:=(hS2 (kyv (kyl n (e j))) y.val).2 (.inr ⟨h9,y,h10,h11,rfl⟩)
    exact ⟨x,h12,h13⟩
  try refine Qb ?_
  refine QU (M':=(b2,.var (.agg #[.int .i64 (n:Int),.slice p (n*n) c]),24)::M) (ULe.refl _) sbk ?_
  exact Qg (E':=[(40,.int .i64 ((i:Int)+1)),(39,.int .i64 (np:Int)),(38,.slice pp np cp),(8,.map (some b8)),(2,.pointer (some ⟨b2,0,none⟩)),(1,.slice pp np cp)]) (m:=np - (i+1)) ⟨rfl,rfl,rfl,rfl,rfl,rfl,trivial⟩ (by omega) ⟨i+1,es2,ck2,by omega,VP,hC2,hQ2,hk1',hk2',by omega,rfl,uc,rfl,rfl⟩
 ·obtain rfl:np=i:=by omega
  repeat (first|refine Qc ?_|refine Qa fun _=>?_|refine w_al fun _=>?_)
  refine vw rfl rfl rfl rfl rfl (fun b13 hb13=>?_)
  have hb13':U1 b13=none:=by
   cases h5:U1 b13 with
   | none=>rfl
   | some o=>have:=hU2 _ _ h5; rw [hb13] at this; cases this
  have hne:b8≠b13:=fun h5=>by rw [h5,hb13] at hmap; cases hmap
  have hU3:ULe U2 (U2.upd b13 (.map #[] 0)):=ULe.upd hb13
  repeat (first|refine Qc ?_|refine Qa fun _=>?_|refine w_al fun _=>?_)
  refine Qd rfl rfl rfl rfl rfl rfl (fun _=>qu (rw1.up uc (List.nil_sublist _)) (el.up KeptC.out uc) hb hp hn1 hn8) ?_
  rintro v14 U4 D4 hU4 ⟨X,⟨pv,cv,us,rfl,hcv,rv,ev⟩,hX0,-,rfl⟩
  rw [List.nil_append]
  have hX:=QaN hb he hp hn1 hn8 hX0
  clear hX0
  have hone:∀ bb:Bool,(bb=true↔Hm n np e qq X)→∀ n':Nat,(n:Int)=(n':Int)→(0:Int)=0→(perr n' np ne e≠0→tup [.bool bb,.int .i64 0] = .tuple #[.bool false,.int .i64 (perr n' np ne e)])∧(perr n' np ne e=0→∃ X,Inv n' f X∧∃ hb:Bool,tup [.bool bb,.int .i64 0] = .tuple #[.bool hb,.int .i64 0]∧(hb=true↔Hm n' np e qq X)):=fun bb hbb n' e1 _=>by
   obtain rfl:n=n':=Int.ofNat.inj e1
   exact ⟨fun h4=>absurd h3 h4,fun _=>⟨X,hX,bb,rfl,hbb⟩⟩
  have hm13:U4 b13=some (.map #[] 0):=hU4 _ _ VP
  have hmap4:U4 b8=some (.map es ck):=(uc:ULe U2 U4) _ _ hmap
  have hQ4:=hQ.ue (ULe.ue (uc:ULe U2 U4))
  repeat (first|refine Qc ?_|refine Qa fun _=>?_|refine w_al fun _=>?_)
  refine Qca rfl rfl jT hmap4 rfl rfl rfl rfl (fun b61 hb61=>?_)
  have n1:b8≠b61:=fun h5=>by rw [h5,hb61] at hmap4; cases hmap4
  have n2:b13≠b61:=fun h5=>by rw [h5,hb61] at hm13; cases hm13
  have hb61':U1 b61=none:=by
   cases h5:U1 b61 with
   | none=>rfl
   | some o=>have:=(uc:ULe U1 U4) _ _ h5; rw [hb61] at this; cases this
  have hU5:ULe U4 (U4.upd b61 (.mapIter (some b8) ck #[] ck)):=ULe.upd hb61
  have hst0:HSt n X (fsm np n e qq) es ck b8 b13 b61 pv us (U4.upd b61 (.mapIter (some b8) ck #[] ck)) #[] #[] 0 (fun _=>0) :=
   ⟨by rw [qw n1]; exact hmap4,VP,by rw [qw n2]; exact hm13,MapC.nil,MapQ.nil,hQ4.ue hU5.ue,rv.up hU5 (List.Sublist.refl _),ev.up QF hU5⟩
  clear hQ hQ4 rv ev hmap hmap4 hm13 hb13 hb61
  have hnn:n*n≤64:=Nat.mul_le_mul hn8 hn8
  obtain ⟨F,hF⟩:∃ F,F=fsm np n e qq:=⟨_,rfl⟩
  have hFz:∀ κ,Szq (F κ) 6061:=fun κ=>by rw [hF]; exact (Qfq hqs hb1 (Nat.le_refl np) κ).mono (by omega)
  rw [← hF] at hst0
  repeat (first|refine Qc ?_|refine Qa fun _=>?_|refine w_al fun _=>?_)
  try refine Qu (M':=(b2,.var (.agg #[.int .i64 (n:Int),.slice p (n*n) c]),24)::M) (ULe.refl _) sbk ?_
  refine Ql (fun z E U' M'=>∃ (ws:List MapEntry) (seen:Array Nat) (es2:Array MapEntry) (ck2:Nat) (F2:List Int→Rat) (dg:Int),HSt n X F es ck b8 b13 b61 pv us U' seen es2 ck2 F2∧seen.toList=ws.map (fun y=>y.born)∧(ws.map (fun y=>y.born)).Nodup∧(∀ y ∈ ws,y ∈ es.toList)∧(∀ μ,F2 μ=lsm ws fun y=>F (unk y.key)*ttm n X (unk y.key) μ)∧(∀ μ,Szq (F2 μ) (1+ws.length*(n*n)*6100))∧DSt F ws dg∧E=[(61,.pointer (some ⟨b61,0,none⟩)),(12,.int .i64 dg),(8,.map (some b8)),(2,.pointer (some ⟨b2,0,none⟩)),(14,.slice pv (n*n) cv),(13,.map (some b13))]∧ULe U1 U'∧M'=(b2,.var (.agg #[.int .i64 (n:Int),.slice p (n*n) c]),24)::M∧z=es.size - ws.length) (n0:=es.size - ([]).length) (E0:=[(61,.pointer (some ⟨b61,0,none⟩)),(12,.int .i64 ((-1))),(8,.map (some b8)),(2,.pointer (some ⟨b2,0,none⟩)),(14,.slice pv (n*n) cv),(13,.map (some b13))]) ⟨rfl,rfl,rfl,rfl,rfl,rfl,trivial⟩ ⟨[],#[],#[],0,(fun _=>0),(-1),hst0,rfl,List.nodup_nil,(fun y hy=>by cases hy),(fun μ=>rfl),(fun μ=>Yn.mono (by omega)),.inl ⟨rfl,(fun y hy=>by cases hy)⟩,rfl,uc,rfl,rfl⟩ ?_
  clear hst0
  rintro z E U6 M' ⟨ws,seen,es2,ck2,F2,dg,hst,hsn,hnd,hwe,hF2,hsz,hdst,rfl,hU6,rfl,rfl⟩
  try refine Qb ?_
  have hwl:ws.length≤es.size:=by
   have h5:=Qdu hnd (m:=es.toList.map (fun y=>y.born)) fun z hz=>by
    obtain ⟨y,hy,rfl⟩:=List.mem_map.1 hz
    exact List.mem_map.2 ⟨y,hwe y hy,rfl⟩
   rw [List.length_map,List.length_map] at h5
   simpa using h5
  refine QdK rfl rfl hst.m8 hC hst.it (Nat.le_refl _) rfl rfl rfl rfl (fun hall=>?_) (fun x hx hxs=>?_)
  ·have hew:∀ y ∈ es.toList,y ∈ ws:=fun y hy=>by
    have h5:=hall y hy
    rw [hsn] at h5
    obtain ⟨z,hz,hzb⟩:=List.mem_map.1 h5
    have h6:=hwe z hz
    obtain ⟨i1,hi1⟩:=List.mem_iff_getElem?.1 hy
    obtain ⟨i2,hi2⟩:=List.mem_iff_getElem?.1 h6
    have h7:(es.toList.map (fun y=>y.born))[i1]?=some y.born:=by rw [List.getElem?_map,hi1]; rfl
    have h8:(es.toList.map (fun y=>y.born))[i2]?=some y.born:=by rw [List.getElem?_map,hi2,← hzb]; rfl
    have h9:=(List.getElem?_inj (List.getElem?_eq_some_iff.1 h7).1 hC.born).1 (h7.trans h8.symm)
    rw [h9,hi2] at hi1
    rw [← Option.some.inj hi1]; exact hz
   have hlink:∀ μ,F2 μ=La.sm np fun j=>qq j*ttm n X (kyl n (e j)) μ:=fun μ=>by
    rw [hF2 μ,hF]
    exact QgS (t:=fun κ=>ttm n X κ μ) hC hk1 hk2 hnd hwe hew
   have hdeg:∀ i j,i < np→j < np→fsm np n e qq (kyl n (e i))≠0→fsm np n e qq (kyl n (e j))≠0→exs (e i) n=exs (e j) n:=fun i j hi hj h5 h6=>by
    rw [← hF] at h5 h6
    obtain ⟨y,hy,hyk⟩:=hk2 i hi
    obtain ⟨z,hz,hzk⟩:=hk2 j hj
    have h7:=jo (hfi i hi).2 8
    have h8:=jo (hfi j hj).2 8
    rw [Nat.min_eq_right hn8] at h7 h8
    rcases hdst with ⟨-,h9⟩ | ⟨-,-,h9⟩
    ·have h10:=h9 y (hew y hy)
     rw [hyk,YR] at h10
     exact absurd h10 h5
    ·have h10:=h9 y (hew y hy)
     have h11:=h9 z (hew z hz)
     rw [hyk,YR] at h10
     rw [hzk,YR] at h11
     have h12:=h10 h5
     have h13:=h11 h6
     omega
   try refine Qb ?_
   refine Qca rfl rfl jT hst.m13 rfl rfl rfl rfl (fun b14 hb14=>?_)
   have n3:b13≠b14:=fun h5=>by have:=hst.m13; rw [h5,hb14] at this; cases this
   have hb14':U1 b14=none:=by
    cases h5:U1 b14 with
    | none=>rfl
    | some o=>have:=(uc:ULe U1 U6) _ _ h5; rw [hb14] at this; cases this
   have hU8:ULe U6 (U6.upd b14 (.mapIter (some b13) ck2 #[] ck2)):=ULe.upd hb14
   try refine Qb ?_
   try refine Qu (M':=(b2,.var (.agg #[.int .i64 (n:Int),.slice p (n*n) c]),24)::M) (ULe.refl _) sbk ?_
   refine Ql (fun z E U' M'=>∃ (sn:Array Nat),U' b13=some (.map es2 ck2)∧U' b14=some (.mapIter (some b13) ck2 sn ck2)∧MapQ 8 U' es2 F2∧sn.toList.Nodup∧(∀ z ∈ sn.toList,z ∈ es2.toList.map (fun y=>y.born))∧(∀ y ∈ es2.toList,y.born ∈ sn.toList→F2 (unk y.key)=0)∧E=[(140,.pointer (some ⟨b14,0,none⟩)),(2,.pointer (some ⟨b2,0,none⟩))]∧ULe U1 U'∧M'=(b2,.var (.agg #[.int .i64 (n:Int),.slice p (n*n) c]),24)::M∧z=es2.size - sn.size) (n0:=es2.size - (#[]).size) (E0:=[(140,.pointer (some ⟨b14,0,none⟩)),(2,.pointer (some ⟨b2,0,none⟩))]) ⟨rfl,rfl,trivial⟩ ⟨#[],by rw [qw n3]; exact hst.m13,VP,hst.q13.ue hU8.ue,List.nodup_nil,(fun z hz=>by cases hz),(fun y hy hz=>by cases hz),rfl,uc,rfl,rfl⟩ ?_
   rintro z E U9 M' ⟨sn,hm13,hit,hq13,hsn2,hsb,hz0,rfl,hU9,rfl,rfl⟩
   try refine Qb ?_
   refine QdK rfl rfl hm13 hst.c13 hit (Nat.le_refl _) rfl rfl rfl rfl (fun hall2=>?_) (fun y hy hys=>?_)
   ·have hc8:=hone true ⟨fun _=>⟨hdeg,fun μ hμ=>by
     rw [← hlink μ]
     by_cases h5:∃ y ∈ es2.toList,y.key=kyv μ
     ·obtain ⟨y,hy,hyk⟩:=h5
      have h6:=hz0 y hy (hall2 y hy)
      rw [hyk,YR] at h6
      exact h6
     ·exact hq13.none μ hμ fun y hy h6=>h5 ⟨y,hy,h6⟩⟩,fun _=>rfl⟩
    repeat (first|refine Qc ?_|refine Qa fun _=>?_|refine w_al fun _=>?_)
    exact Qe [] sym rfl (.cons (.tmp rfl) (.cons (.tmp rfl) .nil)) uc sb (.inl rfl) ⟨fun h=>absurd rfl h,hc8,rfl⟩
   ·obtain ⟨κ,hκl,hκ⟩:=hst.c13.keys y hy
    have hκ:y.key=kyv κ:=hκ
    obtain ⟨xv,hxv,hxn⟩:=hq13.val κ y.val hκl ⟨y,hy,hκ,rfl⟩
    have hue:UE U9 (U9.upd b14 (.mapIter (some b13) ck2 (sn.push y.born) ck2)):=vK hit (fun c t x h=>by cases h)
    have hUz:ULe U1 (U9.upd b14 (.mapIter (some b13) ck2 (sn.push y.born) ck2)):=jy uc hb14'
    have hm13':(U9.upd b14 (.mapIter (some b13) ck2 (sn.push y.born) ck2)) b13=some (.map es2 ck2):=by rw [qw n3]; exact hm13
    have hsl:sn.size+1≤es2.size:=by
     have h5:=Qdu (l:=y.born::sn.toList) (List.nodup_cons.2 ⟨hys,hsn2⟩) (m:=es2.toList.map (fun y=>y.born)) fun z hz=>by
      rcases List.mem_cons.1 hz with rfl | hz
      ·exact List.mem_map.2 ⟨y,hy,rfl⟩
      ·exact hsb z hz
     rw [List.length_cons,List.length_map] at h5
     simpa using h5
    have hwb:ws.length*(n*n)≤60*64:=Nat.mul_le_mul (by omega) hnn
    have hxn:=hxn.ue hue
    have hq13:=hq13.ue hue
    try refine Qb ?_
    refine sl_y (QbZ rfl rfl hm13' hst.c13 VP hy) rfl rfl rfl rfl ?_
    rw [hκ,hxv]
    repeat (first|refine Qc ?_|refine Qa fun _=>?_|refine w_al fun _=>?_)
    rename_i b25
    refine Qd rfl rfl rfl rfl rfl rfl (fun _=>Va (hxn.rep.up uc (List.nil_sublist _)) (hxn.le (hsz κ) (by omega))) ?_
    rintro v9 U10 D9 hU10 ⟨rfl,rfl,rfl⟩
    rw [List.nil_append]
    repeat (first|refine Qc ?_|refine Qa fun _=>?_|refine w_al fun _=>?_)
    refine QK rfl (fun h5=>?_) (fun h5=>?_)
    ·have hc8:=hone false ⟨(fun h=>by cases h),(fun hh=>by
      have h6:=hh.2 κ hκl
      rw [← hlink κ] at h6
      exact absurd (Vw.2 h6) h5)⟩
     repeat (first|refine Qc ?_|refine Qa fun _=>?_|refine w_al fun _=>?_)
     exact Qe [] sym rfl (.cons (.tmp rfl) (.cons (.tmp rfl) .nil)) uc sb (.inl rfl) ⟨fun h=>absurd rfl h,hc8,rfl⟩
    ·have hz1:∀ z ∈ es2.toList,z.born ∈ (sn.push y.born).toList→F2 (unk z.key)=0:=fun z hz hzb=>by
      rw [Array.toList_push] at hzb
      rcases List.mem_append.1 hzb with h6 | h6
      ·exact hz0 z hz h6
      ·rw [List.mem_singleton] at h6
       obtain ⟨i1,hi1⟩:=List.mem_iff_getElem?.1 hz
       obtain ⟨i2,hi2⟩:=List.mem_iff_getElem?.1 hy
       have h7:(es2.toList.map (fun y=>y.born))[i1]?=some z.born:=by rw [List.getElem?_map,hi1]; rfl
       have h8:(es2.toList.map (fun y=>y.born))[i2]?=some z.born:=by rw [List.getElem?_map,hi2,h6]; rfl
       have h9:=(List.getElem?_inj (List.getElem?_eq_some_iff.1 h7).1 hst.c13.born).1 (h7.trans h8.symm)
       rw [h9,hi2] at hi1
       rw [← Option.some.inj hi1,hκ,YR]
       exact Vw.1 h5
     have hnd3:(sn.push y.born).toList.Nodup:=by
      rw [Array.toList_push]
      refine List.nodup_append.2 ⟨hsn2,List.nodup_cons.2 ⟨List.not_mem_nil,List.nodup_nil⟩,fun a ha b hb=>?_⟩
      rw [List.mem_singleton] at hb
      rw [hb]
      rintro rfl
      exact hys ha
     have hsb3:∀ z ∈ (sn.push y.born).toList,z ∈ es2.toList.map (fun y=>y.born):=fun z hz=>by
      rw [Array.toList_push] at hz
      rcases List.mem_append.1 hz with hz | hz
      ·exact hsb z hz
      ·rw [List.mem_singleton] at hz
       rw [hz]; exact List.mem_map.2 ⟨y,hy,rfl⟩
     have hmz:es2.size - (sn.push y.born).size < es2.size - sn.size:=by rw [Array.size_push]; omega
     try refine Qb ?_
     refine QU (M':=(b2,.var (.agg #[.int .i64 (n:Int),.slice p (n*n) c]),24)::M) (ULe.refl _) sbk ?_
     exact Qg (E':=[(140,.pointer (some ⟨b14,0,none⟩)),(2,.pointer (some ⟨b2,0,none⟩))]) (m:=es2.size - (sn.push y.born).size) ⟨rfl,rfl,trivial⟩ (by omega) ⟨sn.push y.born,hm13',VP,hq13,hnd3,hsb3,hz1,rfl,uc,rfl,rfl⟩
  ·obtain ⟨j,hj,hkey⟩:=hk1 x hx
   obtain ⟨hnj,hfe⟩:=hfi j hj
   have hkl:=qD (e:=e j) hn8
   have hst1:=hst.next (seen.push x.born)
   have hUz:ULe U1 (U6.upd b61 (.mapIter (some b8) ck (seen.push x.born) ck)):=jy uc hb61'
   have hwl1:ws.length+1≤es.size:=by
    have h5:=Qdu (l:=x.born::ws.map (fun y=>y.born)) (List.nodup_cons.2 ⟨by rw [← hsn]; exact hxs,hnd⟩) (m:=es.toList.map (fun y=>y.born)) fun z hz=>by
     rcases List.mem_cons.1 hz with rfl | hz
     ·exact List.mem_map.2 ⟨x,hx,rfl⟩
     ·obtain ⟨y,hy,rfl⟩:=List.mem_map.1 hz
      exact List.mem_map.2 ⟨y,hwe y hy,rfl⟩
    rw [List.length_cons,List.length_map,List.length_map] at h5
    simpa using h5
   obtain ⟨U7,hU7⟩:∃ U7,U7=U6.upd b61 (.mapIter (some b8) ck (seen.push x.born) ck):=⟨_,rfl⟩
   rw [← hU7] at hst1 hUz ⊢
   obtain ⟨xv,hxv,hxn⟩:=hst1.q8.val _ x.val hkl ⟨x,hx,hkey,rfl⟩
   try refine Qb ?_
   refine sl_y (QbZ rfl rfl hst1.m8 hC hst1.it hx) rfl rfl rfl rfl ?_
   rw [hkey,hxv]
   have hkb:=Qje hfe
   have hku:unk x.key=kyl n (e j):=by rw [hkey,YR]
   obtain ⟨κ,hκ⟩:∃ κ,κ=kyl n (e j):=⟨_,rfl⟩
   rw [← hκ] at hkl hkb hku hxn ⊢
   have hsn1:(seen.push x.born).toList=(ws++[x]).map (fun y=>y.born):=by
    rw [Array.toList_push,hsn,List.map_append]; rfl
   have hnd1:((ws++[x]).map (fun y=>y.born)).Nodup:=by
    rw [List.map_append]
    refine List.nodup_append.2 ⟨hnd,List.nodup_cons.2 ⟨List.not_mem_nil,List.nodup_nil⟩,fun a ha b hb=>?_⟩
    rw [List.map_cons,List.map_nil,List.mem_singleton] at hb
    rw [hb]
    rintro rfl
    rw [hsn] at hxs
    exact hxs ha
   have hwe1:∀ y ∈ ws++[x],y ∈ es.toList:=fun y hy=>by
    rcases List.mem_append.1 hy with hy | hy
    ·exact hwe y hy
    ·rw [List.mem_singleton] at hy; rw [hy]; exact hx
   have hlen1:(ws++[x]).length=ws.length+1:=by rw [List.length_append]; rfl
   have hwm:(ws.length+1)*(n*n)=ws.length*(n*n)+n*n:=Nat.succ_mul _ _
   have hwb:ws.length*(n*n)≤60*64:=Nat.mul_le_mul (by omega) hnn
   try refine Qb ?_
   refine VD rfl JR rfl rfl rfl (fun b15=>?_)
   repeat (first|refine Qc ?_|refine Qa fun _=>?_|refine w_al fun _=>?_)
   rename_i b16
   refine qC 1 rfl rfl rfl rfl JR (by rw [yI]; exact hkl) rfl (yw _) rfl rfl rfl ?_
   repeat (first|refine Qc ?_|refine Qa fun _=>?_|refine w_al fun _=>?_)
   refine Qj (M':=(b16,.var xv.v,TR)::(b15,.var (kyv κ),62)::(b2,.var (.agg #[.int .i64 (n:Int),.slice p (n*n) c]),24)::M) ?_ (List.Perm.refl _)
   refine Qd rfl rfl rfl rfl rfl rfl (fun _=>Va (hxn.rep.up uc (List.nil_sublist _)) (hxn.le (hFz κ) (by decide))) ?_
   rintro v9 U9 D9 hU9 ⟨rfl,rfl,rfl⟩
   rw [List.nil_append]
   repeat (first|refine Qc ?_|refine Qa fun _=>?_|refine w_al fun _=>?_)
   refine Qi rfl (fun h6=>?_) (fun h6=>?_)
   ·have hF0:F κ=0:=Vw.1 h6
    try refine Qb ?_
    refine QU (M':=(b2,.var (.agg #[.int .i64 (n:Int),.slice p (n*n) c]),24)::M) (ULe.refl _) sbk ?_
    exact Qg (E':=[(61,.pointer (some ⟨b61,0,none⟩)),(12,.int .i64 dg),(8,.map (some b8)),(2,.pointer (some ⟨b2,0,none⟩)),(14,.slice pv (n*n) cv),(13,.map (some b13))]) (m:=es.size - (ws++[x]).length) ⟨rfl,rfl,rfl,rfl,rfl,rfl,trivial⟩ (by omega) ⟨ws++[x],seen.push x.born,es2,ck2,F2,dg,hst1,hsn1,hnd1,hwe1,(fun μ=>by rw [yH,hku,hF0,Rat.zero_mul,Rat.add_zero]; exact hF2 μ),(fun μ=>(hsz μ).mono (by rw [hlen1,hwm]; omega)),hdst.skip (by rw [hku]; exact hF0),rfl,uc,rfl,rfl⟩
   ·have hF0:F κ≠0:=fun h7=>h6 (Vw.2 h7)
    try refine Qb ?_
    refine sl_y (YC 1 rfl rfl rfl JH JR rfl hkl) rfl rfl rfl rfl ?_
    try refine Qb ?_
    try refine Qu (M':=(b16,.var xv.v,TR)::(b15,.var (kyv κ),62)::(b2,.var (.agg #[.int .i64 (n:Int),.slice p (n*n) c]),24)::M) (ULe.refl _) sbk ?_
    refine Ql (fun z E U' M'=>∃ (k:Nat),k≤8∧U7=U'∧E=[(71,.int .i64 (k:Int)),(70,kyv κ),(17,.int .i64 (dgs κ k)),(12,.int .i64 dg),(61,.pointer (some ⟨b61,0,none⟩)),(16,.pointer (some ⟨b16,0,none⟩)),(15,.pointer (some ⟨b15,0,none⟩)),(8,.map (some b8)),(2,.pointer (some ⟨b2,0,none⟩)),(14,.slice pv (n*n) cv),(13,.map (some b13))]∧ULe U7 U'∧M'=(b16,.var xv.v,TR)::(b15,.var (kyv κ),62)::(b2,.var (.agg #[.int .i64 (n:Int),.slice p (n*n) c]),24)::M∧z=8 - k) (n0:=8 - 0) (E0:=[(71,.int .i64 ((0:Nat):Int)),(70,kyv κ),(17,.int .i64 (dgs κ 0)),(12,.int .i64 dg),(61,.pointer (some ⟨b61,0,none⟩)),(16,.pointer (some ⟨b16,0,none⟩)),(15,.pointer (some ⟨b15,0,none⟩)),(8,.map (some b8)),(2,.pointer (some ⟨b2,0,none⟩)),(14,.slice pv (n*n) cv),(13,.map (some b13))]) ⟨rfl,rfl,rfl,rfl,rfl,rfl,rfl,rfl,rfl,rfl,rfl,trivial⟩ ⟨0,by omega,rfl,rfl,uc,rfl,rfl⟩ ?_
    rintro z E U8 M' ⟨k,hk,rfl,rfl,hU8,rfl,rfl⟩
    try refine Qb ?_
    refine Qi rfl (fun h7=>?_) (fun h7=>?_)
    ·have hk8:k < 8:=by omega
     have hd1:=QcF hkb k
     have hd2:=hkb k
     try refine Qb ?_
     refine sl_y (QiD (cs:=κ.map (Value.int .i64)) (v := .int .i64 (kat κ k)) JH Jh rfl rfl rfl rfl rfl hk8 (by rw [List.getElem?_map,VF (by omega)]; rfl)) rfl rfl rfl rfl ?_
     try refine Qb ?_
     exact Qg (E':=[(71,.int .i64 ((k:Int)+1)),(70,kyv κ),(17,.int .i64 (dgs κ (k+1))),(12,.int .i64 dg),(61,.pointer (some ⟨b61,0,none⟩)),(16,.pointer (some ⟨b16,0,none⟩)),(15,.pointer (some ⟨b15,0,none⟩)),(8,.map (some b8)),(2,.pointer (some ⟨b2,0,none⟩)),(14,.slice pv (n*n) cv),(13,.map (some b13))]) (m:=8 - (k+1)) ⟨rfl,rfl,rfl,rfl,rfl,rfl,rfl,rfl,rfl,rfl,rfl,trivial⟩ (by omega) ⟨k+1,by omega,rfl,rfl,uc,rfl,rfl⟩
    ·obtain rfl:k=8:=by omega
     have hd1:=QcF hkb 8
     repeat (first|refine Ji ?_|refine Qa fun _=>?_|refine w_al fun _=>?_)
     refine Qo (fun E U' M'=>U7=U'∧¬ (0≤dg∧dgs κ 8≠dg)∧E=[(17,.int .i64 (dgs κ 8)),(12,.int .i64 dg),(61,.pointer (some ⟨b61,0,none⟩)),(16,.pointer (some ⟨b16,0,none⟩)),(15,.pointer (some ⟨b15,0,none⟩)),(8,.map (some b8)),(2,.pointer (some ⟨b2,0,none⟩)),(14,.slice pv (n*n) cv),(13,.map (some b13))]∧ULe U7 U'∧M'=(b16,.var xv.v,TR)::(b15,.var (kyv κ),62)::(b2,.var (.agg #[.int .i64 (n:Int),.slice p (n*n) c]),24)::M) ?_ ?_
     ·try refine Qb ?_
      refine Qw rfl rfl (fun h8=>?_) (fun h8=>?_)
      ·try refine Qb ?_
       refine QK rfl (fun h9=>?_) (fun h9=>?_)
       ·have hc8:=hone false ⟨(fun h=>by cases h),(fun hh=>by
         rcases hdst with ⟨h10,-⟩ | ⟨-,⟨y,hy,hyF,hyd⟩,-⟩
         ·omega
         ·obtain ⟨j2,hj2,hkey2⟩:=hk1 y (hwe y hy)
          rw [hkey2,YR] at hyF hyd
          rw [hκ] at hF0 h9
          rw [hF] at hF0 hyF
          have h11:=hh.1 j j2 hj hj2 hF0 hyF
          rw [jo (hfi j2 hj2).2,Nat.min_eq_right hn8] at hyd
          rw [jo hfe,Nat.min_eq_right hn8] at h9
          omega)⟩
        repeat (first|refine Qc ?_|refine Qa fun _=>?_|refine w_al fun _=>?_)
        exact Qe [] sym rfl (.cons (.tmp rfl) (.cons (.tmp rfl) .nil)) uc sb (.inl rfl) ⟨fun h=>absurd rfl h,hc8,rfl⟩
       ·try refine Qb ?_
        exact Qn (E':=[(17,.int .i64 (dgs κ 8)),(12,.int .i64 dg),(61,.pointer (some ⟨b61,0,none⟩)),(16,.pointer (some ⟨b16,0,none⟩)),(15,.pointer (some ⟨b15,0,none⟩)),(8,.map (some b8)),(2,.pointer (some ⟨b2,0,none⟩)),(14,.slice pv (n*n) cv),(13,.map (some b13))]) ⟨rfl,rfl,rfl,rfl,rfl,rfl,rfl,rfl,rfl,trivial⟩ ⟨rfl,(fun h10=>h10.2 (by omega)),rfl,uc,rfl⟩
      ·try refine Qb ?_
       exact Qn (E':=[(17,.int .i64 (dgs κ 8)),(12,.int .i64 dg),(61,.pointer (some ⟨b61,0,none⟩)),(16,.pointer (some ⟨b16,0,none⟩)),(15,.pointer (some ⟨b15,0,none⟩)),(8,.map (some b8)),(2,.pointer (some ⟨b2,0,none⟩)),(14,.slice pv (n*n) cv),(13,.map (some b13))]) ⟨rfl,rfl,rfl,rfl,rfl,rfl,rfl,rfl,rfl,trivial⟩ ⟨rfl,(fun h10=>h8 (by omega)),rfl,uc,rfl⟩
     rintro E U8 M' ⟨rfl,hnodg,rfl,hU8,rfl⟩
     try refine Qb ?_
     have hszw:∀ μ,Szq (F2 μ) (1+(ws.length*(n*n)+0*n)*6100):=fun μ=>(hsz μ).mono (by rw [Nat.zero_mul]; exact Nat.le_refl _)
     obtain ⟨W,hW⟩:∃ W,W=ws.length*(n*n):=⟨_,rfl⟩
     rw [← hW] at hszw hwb
     try refine Qu (M':=(b16,.var xv.v,TR)::(b15,.var (kyv κ),62)::(b2,.var (.agg #[.int .i64 (n:Int),.slice p (n*n) c]),24)::M) (ULe.refl _) sbk ?_
     refine Ql (fun z E U' M'=>∃ (a:Nat) (es3:Array MapEntry) (ck3:Nat) (F3:List Int→Rat),a≤n∧HSt n X F es ck b8 b13 b61 pv us U' (seen.push x.born) es3 ck3 F3∧(∀ μ,F3 μ=F2 μ+La.sm a fun a'=>La.sm n fun b'=>F κ*tmk X κ μ a' b')∧(∀ μ,Szq (F3 μ) (1+(W+a*n)*6100))∧xv.nrm U' [] (F κ)∧E=[(88,.int .i64 (a:Int)),(87,.int .i64 (n:Int)),(12,.int .i64 (dgs κ 8)),(61,.pointer (some ⟨b61,0,none⟩)),(16,.pointer (some ⟨b16,0,none⟩)),(15,.pointer (some ⟨b15,0,none⟩)),(8,.map (some b8)),(2,.pointer (some ⟨b2,0,none⟩)),(14,.slice pv (n*n) cv),(13,.map (some b13))]∧ULe U1 U'∧M'=(b16,.var xv.v,TR)::(b15,.var (kyv κ),62)::(b2,.var (.agg #[.int .i64 (n:Int),.slice p (n*n) c]),24)::M∧z=n - a) (n0:=n - 0) (E0:=[(88,.int .i64 ((0:Nat):Int)),(87,.int .i64 (n:Int)),(12,.int .i64 (dgs κ 8)),(61,.pointer (some ⟨b61,0,none⟩)),(16,.pointer (some ⟨b16,0,none⟩)),(15,.pointer (some ⟨b15,0,none⟩)),(8,.map (some b8)),(2,.pointer (some ⟨b2,0,none⟩)),(14,.slice pv (n*n) cv),(13,.map (some b13))]) ⟨rfl,rfl,rfl,rfl,rfl,rfl,rfl,rfl,rfl,rfl,trivial⟩ ⟨0,es2,ck2,F2,by omega,hst1,(fun μ=>(Rat.add_zero _).symm),hszw,hxn,rfl,uc,rfl,rfl⟩ ?_
     clear hxn hszw
     rintro z E U9 M' ⟨a,es3,ck3,F3,ha,hst3,hF3,hsz3,hxn,rfl,hU9,rfl,rfl⟩
     try refine Qb ?_
     refine Qi rfl (fun h10=>?_) (fun h10=>?_)
     ·have han:a < n:=by omega
      have haw:a*n+n≤n*n:=by
       have:=Nat.mul_le_mul_right n (show a+1≤n by omega)
       rw [Nat.succ_mul] at this
       exact this
      try refine Qb ?_
      try refine Qu (M':=(b16,.var xv.v,TR)::(b15,.var (kyv κ),62)::(b2,.var (.agg #[.int .i64 (n:Int),.slice p (n*n) c]),24)::M) (ULe.refl _) sbk ?_
      refine Ql (fun z E U' M'=>∃ (b:Nat) (es4:Array MapEntry) (ck4:Nat) (F4:List Int→Rat),b≤n∧HSt n X F es ck b8 b13 b61 pv us U' (seen.push x.born) es4 ck4 F4∧(∀ μ,F4 μ=F3 μ+La.sm b fun b'=>F κ*tmk X κ μ a b')∧(∀ μ,Szq (F4 μ) (1+(W+a*n+b)*6100))∧xv.nrm U' [] (F κ)∧E=[(93,.int .i64 (b:Int)),(92,.int .i64 (n:Int)),(20,.int .i64 (a:Int)),(88,.int .i64 (a:Int)),(87,.int .i64 (n:Int)),(12,.int .i64 (dgs κ 8)),(61,.pointer (some ⟨b61,0,none⟩)),(16,.pointer (some ⟨b16,0,none⟩)),(15,.pointer (some ⟨b15,0,none⟩)),(8,.map (some b8)),(2,.pointer (some ⟨b2,0,none⟩)),(14,.slice pv (n*n) cv),(13,.map (some b13))]∧ULe U1 U'∧M'=(b16,.var xv.v,TR)::(b15,.var (kyv κ),62)::(b2,.var (.agg #[.int .i64 (n:Int),.slice p (n*n) c]),24)::M∧z=n - b) (n0:=n - 0) (E0:=[(93,.int .i64 ((0:Nat):Int)),(92,.int .i64 (n:Int)),(20,.int .i64 (a:Int)),(88,.int .i64 (a:Int)),(87,.int .i64 (n:Int)),(12,.int .i64 (dgs κ 8)),(61,.pointer (some ⟨b61,0,none⟩)),(16,.pointer (some ⟨b16,0,none⟩)),(15,.pointer (some ⟨b15,0,none⟩)),(8,.map (some b8)),(2,.pointer (some ⟨b2,0,none⟩)),(14,.slice pv (n*n) cv),(13,.map (some b13))]) ⟨rfl,rfl,rfl,rfl,rfl,rfl,rfl,rfl,rfl,rfl,rfl,rfl,rfl,trivial⟩ ⟨0,es3,ck3,F3,by omega,hst3,(fun μ=>(Rat.add_zero _).symm),hsz3,hxn,rfl,uc,rfl,rfl⟩ ?_
      clear hst3 hsz3 hxn
      rintro z E U10 M' ⟨b,es4,ck4,F4,hbn,hst4,hF4,hsz4,hxn,rfl,hU10,rfl,rfl⟩
      try refine Qb ?_
      refine Qi rfl (fun h11=>?_) (fun h11=>?_)
      ·have hbn2:b < n:=by omega
       have hd3:=hkb a
       have hd4:=QfX hkb (a:=a) (by omega) b
       have hd5:=QhO hkb (a:=a) (by omega) b
       repeat (first|refine Ji ?_|refine Qa fun _=>?_|refine w_al fun _=>?_)
       refine QE ?_
       repeat (first|refine Ji ?_|refine Qa fun _=>?_|refine w_al fun _=>?_)
       refine JO ?_
       repeat (first|refine Ji ?_|refine Qa fun _=>?_|refine w_al fun _=>?_)
       refine QE ?_
       repeat (first|refine Ji ?_|refine Qa fun _=>?_|refine w_al fun _=>?_)
       refine Qo (fun E U' M'=>∃ (b22:Nat),U10=U'∧E=[(23,.int .i64 (kat κ a)),(22,.pointer (some ⟨b22,0,none⟩)),(21,.int .i64 (b:Int)),(93,.int .i64 (b:Int)),(92,.int .i64 (n:Int)),(20,.int .i64 (a:Int)),(88,.int .i64 (a:Int)),(87,.int .i64 (n:Int)),(12,.int .i64 (dgs κ 8)),(61,.pointer (some ⟨b61,0,none⟩)),(16,.pointer (some ⟨b16,0,none⟩)),(15,.pointer (some ⟨b15,0,none⟩)),(8,.map (some b8)),(2,.pointer (some ⟨b2,0,none⟩)),(14,.slice pv (n*n) cv),(13,.map (some b13))]∧ULe U10 U'∧M'=(b22,.var (kyv κ),62)::(b16,.var xv.v,TR)::(b15,.var (kyv κ),62)::(b2,.var (.agg #[.int .i64 (n:Int),.slice p (n*n) c]),24)::M) ?_ ?_
       ·have hat:=VF (κ:=κ) (a:=a) (by omega)
        refine Qej [5,6] (.node 3 5 (.leaf [0,1,2,3,4,5,6]) (.node 2 5 (.leaf [0,1,2,4,5,3,6]) (.leaf [0,1,4,5,2,3,6]))) sym (by kernel_rfl) (by kernel_rfl) (Qae (jL ?_) (Qae (jL ?_) (jL ?_)))
        ·try refine Qb ?_
         refine sl_y (YC 1 rfl rfl rfl JH JR rfl hkl) rfl rfl rfl rfl ?_
         try refine Qb ?_
         refine sl_y (Vp rfl rfl rfl JH Jh rfl rfl (show a < 8 by omega)) rfl rfl rfl rfl ?_
         refine sl_y (YS 1 rfl rfl rfl Jh rfl hat) rfl rfl rfl rfl ?_
         refine VD rfl JR rfl rfl rfl (fun b22=>?_)
         refine qC 0 rfl rfl rfl rfl JR (by rw [yI]; exact hkl) rfl (yw _) rfl rfl rfl ?_
         try refine Qb ?_
         exact Qn (E':=[(23,.int .i64 (kat κ a)),(22,.pointer (some ⟨b22,0,none⟩)),(21,.int .i64 (b:Int)),(93,.int .i64 (b:Int)),(92,.int .i64 (n:Int)),(20,.int .i64 (a:Int)),(88,.int .i64 (a:Int)),(87,.int .i64 (n:Int)),(12,.int .i64 (dgs κ 8)),(61,.pointer (some ⟨b61,0,none⟩)),(16,.pointer (some ⟨b16,0,none⟩)),(15,.pointer (some ⟨b15,0,none⟩)),(8,.map (some b8)),(2,.pointer (some ⟨b2,0,none⟩)),(14,.slice pv (n*n) cv),(13,.map (some b13))]) ⟨rfl,rfl,rfl,rfl,rfl,rfl,rfl,rfl,rfl,rfl,rfl,rfl,rfl,rfl,rfl,rfl,trivial⟩ ⟨b22,rfl,rfl,uc,rfl⟩
        ·try refine Qb ?_
         refine sl_y (YC 1 rfl rfl rfl JH JR rfl hkl) rfl rfl rfl rfl ?_
         try refine Qb ?_
         refine sl_y (Vp rfl rfl rfl JH Jh rfl rfl (show a < 8 by omega)) rfl rfl rfl rfl ?_
         refine VD rfl JR rfl rfl rfl (fun b22=>?_)
         refine qC 0 rfl rfl rfl rfl JR (by rw [yI]; exact hkl) rfl (yw _) rfl rfl rfl ?_
         refine sl_y (YS 2 rfl rfl rfl Jh rfl hat) rfl rfl rfl rfl ?_
         try refine Qb ?_
         exact Qn (E':=[(23,.int .i64 (kat κ a)),(22,.pointer (some ⟨b22,0,none⟩)),(21,.int .i64 (b:Int)),(93,.int .i64 (b:Int)),(92,.int .i64 (n:Int)),(20,.int .i64 (a:Int)),(88,.int .i64 (a:Int)),(87,.int .i64 (n:Int)),(12,.int .i64 (dgs κ 8)),(61,.pointer (some ⟨b61,0,none⟩)),(16,.pointer (some ⟨b16,0,none⟩)),(15,.pointer (some ⟨b15,0,none⟩)),(8,.map (some b8)),(2,.pointer (some ⟨b2,0,none⟩)),(14,.slice pv (n*n) cv),(13,.map (some b13))]) ⟨rfl,rfl,rfl,rfl,rfl,rfl,rfl,rfl,rfl,rfl,rfl,rfl,rfl,rfl,rfl,rfl,trivial⟩ ⟨b22,rfl,rfl,uc,rfl⟩
        ·try refine Qb ?_
         refine sl_y (YC 1 rfl rfl rfl JH JR rfl hkl) rfl rfl rfl rfl ?_
         try refine Qb ?_
         refine VD rfl JR rfl rfl rfl (fun b22=>?_)
         refine qC 0 rfl rfl rfl rfl JR (by rw [yI]; exact hkl) rfl (yw _) rfl rfl rfl ?_
         refine sl_y (Vp rfl rfl rfl JH Jh rfl rfl (show a < 8 by omega)) rfl rfl rfl rfl ?_
         refine sl_y (YS 2 rfl rfl rfl Jh rfl hat) rfl rfl rfl rfl ?_
         try refine Qb ?_
         exact Qn (E':=[(23,.int .i64 (kat κ a)),(22,.pointer (some ⟨b22,0,none⟩)),(21,.int .i64 (b:Int)),(93,.int .i64 (b:Int)),(92,.int .i64 (n:Int)),(20,.int .i64 (a:Int)),(88,.int .i64 (a:Int)),(87,.int .i64 (n:Int)),(12,.int .i64 (dgs κ 8)),(61,.pointer (some ⟨b61,0,none⟩)),(16,.pointer (some ⟨b16,0,none⟩)),(15,.pointer (some ⟨b15,0,none⟩)),(8,.map (some b8)),(2,.pointer (some ⟨b2,0,none⟩)),(14,.slice pv (n*n) cv),(13,.map (some b13))]) ⟨rfl,rfl,rfl,rfl,rfl,rfl,rfl,rfl,rfl,rfl,rfl,rfl,rfl,rfl,rfl,rfl,trivial⟩ ⟨b22,rfl,rfl,uc,rfl⟩
       rintro E U11 M' ⟨b22,rfl,rfl,hU11,rfl⟩
       have hat:=VF (κ:=κ) (a:=a) (by omega)
       have hdl:(dnk κ a).length=8:=by unfold dnk; rw [List.length_set]; exact hkl
       have hbt:=VF (κ:=dnk κ a) (a:=b) (by omega)
       try refine Qb ?_
       refine sl_y (Vp rfl rfl rfl JH Jh rfl rfl (show a < 8 by omega)) rfl rfl rfl rfl ?_
       refine sl_y (YS 0 rfl rfl rfl Jh rfl hat) rfl rfl rfl rfl ?_
       try refine Qb ?_
       refine sl_y (Vp rfl rfl rfl JH Jh rfl rfl (show a < 8 by omega)) rfl rfl rfl rfl ?_
       refine vH 0 rfl rfl rfl rfl Jh rfl (by omega) rfl rfl rfl ?_
       refine Qj (M':=(b22,.var (kyv (dnk κ a)),62)::(b16,.var xv.v,TR)::(b15,.var (kyv κ),62)::(b2,.var (.agg #[.int .i64 (n:Int),.slice p (n*n) c]),24)::M) ?_ (List.Perm.refl _)
       try refine Qb ?_
       refine sl_y (Vp rfl rfl rfl JH Jh rfl rfl (show b < 8 by omega)) rfl rfl rfl rfl ?_
       refine sl_y (YS 0 rfl rfl rfl Jh rfl hbt) rfl rfl rfl rfl ?_
       try refine Qb ?_
       refine sl_y (Vp rfl rfl rfl JH Jh rfl rfl (show b < 8 by omega)) rfl rfl rfl rfl ?_
       refine sl_y (YS 0 rfl rfl rfl Jh rfl hbt) rfl rfl rfl rfl ?_
       try refine Qb ?_
       refine sl_y (Vp rfl rfl rfl JH Jh rfl rfl (show b < 8 by omega)) rfl rfl rfl rfl ?_
       refine vH 0 rfl rfl rfl rfl Jh rfl (by omega) rfl rfl rfl ?_
       refine Qj (M':=(b22,.var (kyv (lowk κ a b)),62)::(b16,.var xv.v,TR)::(b15,.var (kyv κ),62)::(b2,.var (.agg #[.int .i64 (n:Int),.slice p (n*n) c]),24)::M) ?_ (List.Perm.refl _)
       try refine Qb ?_
       have hF4':∀ μ,F3 μ+La.sm (b+1) (fun b'=>F κ*tmk X κ μ a b')=F4 μ+F κ*tmk X κ μ a b:=fun μ=>by
        rw [hF4 μ,Rat.add_assoc]; rfl
       have hfk:fack κ a b=kat κ a*kat (dnk κ a) b:=rfl
       rw [← hfk] at hd5 ⊢
       refine QK rfl (fun h12=>?_) (fun h12=>?_)
       ·have hkl2:(lowk κ a b).length=8:=by rw [QfD]; exact hkl
        try refine Qb ?_
        refine Qx [20] [0,1,2,3,4,5,6,7,8,9,10,11,12,13,14,16,15,17,18,19,20] sym (by kernel_rfl) ?_
        try refine Qb ?_
        refine sl_y (YC 0 rfl rfl rfl JH JR rfl hkl2) rfl rfl rfl rfl ?_
        try refine Qb ?_
        refine sl_y (YC 0 rfl rfl rfl JH JR rfl hkl2) rfl rfl rfl rfl ?_
        refine QbA (κ:=lowk κ a b) rfl rfl rfl jT QaT hkl2 Qip hst4.m13 hst4.c13 hst4.q13 (hsz4 _) rfl rfl rfl rfl (fun x5 hx5 hl5=>?_)
        have hrw:=hst4.row
        obtain ⟨v3,hv3⟩:=hrw.at (k:=a*n+b) (by omega)
        obtain ⟨y3,rfl,hy3⟩:=hst4.el _ _ hv3
        rw [QdZ hbn2] at hy3
        have hsX:=hX.sz a b han hbn2
        have sfk:Szq ((fack κ a b:Int):Rat) 1:=Jx (by unfold Sz; omega) (by decide)
        try refine Qb ?_
        refine sl_y (Qf sym rfl rfl rfl rfl rfl ( (show (a:Int)*(n:Int)+(b:Int)=((a*n+b:Nat):Int) by rw [Int.natCast_add,Int.natCast_mul])) ((hrw.up uc sb).lt hv3) ((hrw.up uc sb).get _ _ hv3).1) rfl rfl rfl rfl ?_; refine sl_y (Qp sym rfl rfl rfl rfl rfl (hrw.up uc sb) hv3) rfl rfl rfl rfl ?_
        try refine Qb ?_
        refine Qd rfl rfl rfl rfl rfl rfl (fun _=>(YM (hxn.rep.up uc (List.nil_sublist _)) (hxn.le (hFz κ) (by decide)) (hy3.rep.up uc (List.nil_sublist _)) (hy3.le hsX (by decide))).settle) ?_
        rintro v Uh132 D hU ⟨rfl,_,_,⟨xh132,rfl,h132,-⟩,-,-,hs⟩
        replace h132:=h132.sett hs
        clear hs
        repeat (first|refine Qc ?_|refine Qa fun _=>?_|refine w_al fun _=>?_)
        refine Qd rfl rfl rfl rfl rfl rfl (fun _=>(VU (z:=fack κ a b) (by omega) (by omega)).settle) ?_
        rintro v Uh134 D hU ⟨rfl,_,_,⟨xh134,rfl,h134,-⟩,-,-,hs⟩
        replace h134:=h134.sett hs
        clear hs
        repeat (first|refine Qc ?_|refine Qa fun _=>?_|refine w_al fun _=>?_)
        refine Qd rfl rfl rfl rfl rfl rfl (fun _=>(YM (h132.rep.up uc (List.nil_sublist _)) (h132.le ((hFz κ).mul hsX) (by decide)) (h134.rep.up uc (List.nil_sublist _)) (h134.le sfk (by decide))).settle) ?_
        rintro v Uh135 D hU ⟨rfl,_,_,⟨xh135,rfl,h135,-⟩,-,-,hs⟩
        replace h135:=h135.sett hs
        clear hs
        repeat (first|refine Qc ?_|refine Qa fun _=>?_|refine w_al fun _=>?_)
        have s135:=((hFz κ).mul hsX).mul sfk
        refine Qd rfl rfl rfl rfl rfl rfl (fun _=>(YP (hx5.up uc (List.nil_sublist _)) ⟨by have:=hl5.1; omega,by have:=hl5.2; omega⟩ (h135.rep.up uc (List.nil_sublist _)) (h135.le s135 (by decide))).settle) ?_
        rintro v Uh136 D hU ⟨rfl,_,_,⟨xh136,rfl,h136,-⟩,-,-,hs⟩
        replace h136:=h136.sett hs
        clear hs
        repeat (first|refine Qc ?_|refine Qa fun _=>?_|refine w_al fun _=>?_)
        have hst5:=hst4.up (uc:ULe U10 Uh136)
        refine jk rfl rfl rfl rfl jT QaT (QaX hkl2) hst5.m13 hst5.c13 rfl rfl rfl (fun es5 ck5 hC5 hS5 _=>?_)
        have hue:UE Uh136 (Uh136.upd b13 (.map es5 ck5)):=vK hst5.m13 (fun c t x h=>by cases h)
        have hst6:=hst5.set hne hC5 hS5 h136
        have hxn6:xv.nrm (Uh136.upd b13 (.map es5 ck5)) [] (F κ):=(hxn.up (uc:ULe U10 Uh136) (List.Sublist.refl _)).ue hue
        have hUz6:ULe U1 (Uh136.upd b13 (.map es5 ck5)):=jy uc hb13'
        have hF5:∀ μ,(if μ=lowk κ a b then F4 (lowk κ a b)+F κ*X a b*((fack κ a b:Int):Rat) else F4 μ)=F4 μ+F κ*tmk X κ μ a b:=fun μ=>by
         unfold tmk
         by_cases h13:μ=lowk κ a b
         ·rw [if_pos h13,if_pos h13.symm,h13,Rat.mul_assoc]
         ·rw [if_neg h13,if_neg (Ne.symm h13),Rat.mul_zero,Rat.add_zero]
        have hsz5:∀ μ,Szq (if μ=lowk κ a b then F4 (lowk κ a b)+F κ*X a b*((fack κ a b:Int):Rat) else F4 μ) (1+(W+a*n+(b+1))*6100):=fun μ=>by
         split
         ·exact ((hsz4 _).add s135).mono (by omega)
         ·exact (hsz4 μ).mono (by omega)
        try refine Qb ?_
        refine QU (M':=(b16,.var xv.v,TR)::(b15,.var (kyv κ),62)::(b2,.var (.agg #[.int .i64 (n:Int),.slice p (n*n) c]),24)::M) (ULe.refl _) sbk ?_
        exact Qg (E':=[(93,.int .i64 ((b:Int)+1)),(92,.int .i64 (n:Int)),(20,.int .i64 (a:Int)),(88,.int .i64 (a:Int)),(87,.int .i64 (n:Int)),(12,.int .i64 (dgs κ 8)),(61,.pointer (some ⟨b61,0,none⟩)),(16,.pointer (some ⟨b16,0,none⟩)),(15,.pointer (some ⟨b15,0,none⟩)),(8,.map (some b8)),(2,.pointer (some ⟨b2,0,none⟩)),(14,.slice pv (n*n) cv),(13,.map (some b13))]) (m:=n - (b+1)) ⟨rfl,rfl,rfl,rfl,rfl,rfl,rfl,rfl,rfl,rfl,rfl,rfl,rfl,trivial⟩ (by omega) ⟨b+1,es5,ck5,(fun μ=>if μ=lowk κ a b then F4 (lowk κ a b)+F κ*X a b*((fack κ a b:Int):Rat) else F4 μ),by omega,hst6,(fun μ=>by rw [hF4']; exact hF5 μ),hsz5,hxn6,rfl,uc,rfl,rfl⟩
       ·have htz:∀ μ,tmk X κ μ a b=0:=fun μ=>by
         unfold tmk
         split
         ·rw [h12]
          show X a b*0=0
          rw [Rat.mul_zero]
         ·rfl
        try refine Qb ?_
        refine QU (M':=(b16,.var xv.v,TR)::(b15,.var (kyv κ),62)::(b2,.var (.agg #[.int .i64 (n:Int),.slice p (n*n) c]),24)::M) (ULe.refl _) sbk ?_
        exact Qg (E':=[(93,.int .i64 ((b:Int)+1)),(92,.int .i64 (n:Int)),(20,.int .i64 (a:Int)),(88,.int .i64 (a:Int)),(87,.int .i64 (n:Int)),(12,.int .i64 (dgs κ 8)),(61,.pointer (some ⟨b61,0,none⟩)),(16,.pointer (some ⟨b16,0,none⟩)),(15,.pointer (some ⟨b15,0,none⟩)),(8,.map (some b8)),(2,.pointer (some ⟨b2,0,none⟩)),(14,.slice pv (n*n) cv),(13,.map (some b13))]) (m:=n - (b+1)) ⟨rfl,rfl,rfl,rfl,rfl,rfl,rfl,rfl,rfl,rfl,rfl,rfl,rfl,trivial⟩ (by omega) ⟨b+1,es4,ck4,F4,by omega,hst4,(fun μ=>by rw [hF4',htz,Rat.mul_zero,Rat.add_zero]),(fun μ=>(hsz4 μ).mono (by omega)),hxn,rfl,uc,rfl,rfl⟩
      ·obtain rfl:n=b:=by omega
       have hF4':∀ μ,F4 μ=F2 μ+La.sm (a+1) (fun a'=>La.sm n fun b'=>F κ*tmk X κ μ a' b'):=fun μ=>by
        rw [hF4 μ,hF3 μ,Rat.add_assoc]; rfl
       try refine Qb ?_
       exact Qg (E':=[(88,.int .i64 ((a:Int)+1)),(87,.int .i64 (n:Int)),(12,.int .i64 (dgs κ 8)),(61,.pointer (some ⟨b61,0,none⟩)),(16,.pointer (some ⟨b16,0,none⟩)),(15,.pointer (some ⟨b15,0,none⟩)),(8,.map (some b8)),(2,.pointer (some ⟨b2,0,none⟩)),(14,.slice pv (n*n) cv),(13,.map (some b13))]) (m:=n - (a+1)) ⟨rfl,rfl,rfl,rfl,rfl,rfl,rfl,rfl,rfl,rfl,trivial⟩ (by omega) ⟨a+1,es4,ck4,F4,by omega,hst4,hF4',(fun μ=>(hsz4 μ).mono (by rw [Nat.succ_mul]; omega)),hxn,rfl,uc,rfl,rfl⟩
     ·obtain rfl:n=a:=by omega
      have hF3':∀ μ,F3 μ=lsm (ws++[x]) fun y=>F (unk y.key)*ttm n X (unk y.key) μ:=fun μ=>by
       rw [hF3 μ,hF2 μ,yH,hku]
       refine congrArg (_ + ·) ?_
       unfold ttm
       rw [← La.sm_mul]
       exact La.sm_congr fun a' _=>La.sm_mul _ _ _
      try refine Qb ?_
      refine QU (M':=(b2,.var (.agg #[.int .i64 (n:Int),.slice p (n*n) c]),24)::M) (ULe.refl _) sbk ?_
      exact Qg (E':=[(61,.pointer (some ⟨b61,0,none⟩)),(12,.int .i64 (dgs κ 8)),(8,.map (some b8)),(2,.pointer (some ⟨b2,0,none⟩)),(14,.slice pv (n*n) cv),(13,.map (some b13))]) (m:=es.size - (ws++[x]).length) ⟨rfl,rfl,rfl,rfl,rfl,rfl,trivial⟩ (by omega) ⟨ws++[x],seen.push x.born,es3,ck3,F3,dgs κ 8,hst3,hsn1,hnd1,hwe1,hF3',(fun μ=>(hsz3 μ).mono (by rw [hlen1,hwm,← hW]; exact Nat.le_refl _)),hdst.take (by rw [hku]; exact hF0) (by rw [hku]) hd1.1 hnodg,rfl,uc,rfl,rfl⟩
end Go.Proofs.YthnnlgjlhnmhnaaGreat
