/- The law of layer 9 on memory: the walk. -/
import Derived.Test.YtahcddpdgpjbnaaB309
import Derived.Test.YtahcddpdgpjbnaaM35
namespace Go.Proofs.Ytahcddpdgpjbnaa
open Go.Hp
variable {G:World} {U U':UH} {M M':MH}
set_option maxRecDepth 100000 in
set_option maxHeartbeats 4000000 in
theorem qQ {W:World} {va vb:Value} {ra ca rb cb:Int} {na nb:Nat} {fa fb:Nat→Rat} (ha:Raw (UW W) va ra ca na fa) (hb:Raw (UW W) vb rb cb nb fb) :
  Ct Try.prog 3 [va,vb] (G0 W) (UW W) [] fun v _ _=>v = .bool true:=by
 have ha0:=ha
 have hb0:=hb
 obtain ⟨ha1,ha2,ha3,_,rfl,pa,cca,vsa,rfl,-,rwa,ela⟩:=ha
 obtain ⟨hb1,hb2,hb3,_,rfl,pb,ccb,vsb,rfl,-,rwb,elb⟩:=hb
 obtain ⟨U,hU0⟩:∃ U,U=UW W:=⟨_,rfl⟩
 rw [← hU0] at ha0 hb0 rwa ela rwb elb ⊢
 refine Qf Try.func3 rfl rfl rfl rfl ?_
 repeat (first|refine Qc ?_|refine Qb fun _=>?_|refine w_al fun _=>?_)
 rename_i b2 b3
 refine Qd rfl rfl rfl rfl rfl rfl (fun _=>Qbz) ?_
 rintro v1 U1 D hU1 ⟨rfl,-,rfl⟩
 rw [List.nil_append]
 repeat (first|refine Qc ?_|refine Qb fun _=>?_|refine w_al fun _=>?_)
 refine Qs (vs:=[.agg #[.int .i64 ra,.int .i64 ca,.slice pa na cca],.agg #[.int .i64 rb,.int .i64 cb,.slice pb nb ccb]]) sym rfl rfl rfl rfl rfl rfl (QM rfl) rfl rfl rfl rfl rfl rfl (fun bl=>?_)
 have hrl:=(RowO.mk (e:=TM) (s:=3) (b:=bl) (n:=2) (vs:=[.agg #[.int .i64 ra,.int .i64 ca,.slice pa na cca],.agg #[.int .i64 rb,.int .i64 cb,.slice pb nb ccb]]) rfl (QM rfl) (by omega)).at (U:=U1) (M:=(bl,.arr [.agg #[.int .i64 ra,.int .i64 ca,.slice pa na cca],.agg #[.int .i64 rb,.int .i64 cb,.slice pb nb ccb]],TM)::(b3,.var (.agg #[.int .i64 rb,.int .i64 cb,.slice pb nb ccb]),TM)::(b2,.var (.agg #[.int .i64 ra,.int .i64 ca,.slice pa na cca]),TM)::[]) sb
 refine Qd rfl rfl rfl rfl rfl rfl (fun _=>Qbq (hrl.up uc sb) (ha0.up uc) (hb0.up uc) (rwa.up uc (List.Sublist.refl _)) (ela.up QaE uc) (rwb.up uc (List.Sublist.refl _)) (elb.up QaE uc)) ?_
 rintro v2 U2 D hU2 ⟨b,rfl,hl,rfl,rfl⟩
 rw [List.nil_append]
 cases b
 ·repeat (first|refine Qc ?_|refine Qb fun _=>?_|refine w_al fun _=>?_)
  exact Qe [] sym rfl (.cons (.tmp rfl) .nil) uc sb (.inl rfl) rfl
 obtain ⟨⟨na5,hVa,sma⟩,nb5,hVb,smb⟩:=hl rfl
 clear hl hrl
 obtain ⟨La,exa,lla⟩:=QcK rwa ela sma
 obtain ⟨Lb,exb,llb⟩:=QcK rwb elb smb
 repeat (first|refine Qc ?_|refine Qb fun _=>?_|refine w_al fun _=>?_)
 refine QH [6,7] [0,2,1,3,4,5,6,7] sym (by kernel_rfl) ?_
 repeat (first|refine Qc ?_|refine Qb fun _=>?_|refine w_al fun _=>?_)
 refine Qd rfl rfl rfl rfl rfl rfl (fun _=>YV (rwa.up uc (List.nil_sublist _)) (JV exa uc (List.nil_sublist _)) (fun k hk=>⟨Nat.le_trans (lla k hk).1 (by decide),Nat.le_trans (lla k hk).2 (by decide)⟩) (by omega)) ?_
 rintro v3 U3 D3 hU3 ⟨px,cx,vsx,Dxa,Dxd,rfl,rfl,hrx,helx,rfl⟩
 repeat (first|refine Qc ?_|refine Qb fun _=>?_|refine w_al fun _=>?_)
 refine Qd rfl rfl rfl rfl rfl rfl (fun _=>YV (rwb.up uc (List.nil_sublist _)) (JV exb uc (List.nil_sublist _)) (fun k hk=>⟨Nat.le_trans (llb k hk).1 (by decide),Nat.le_trans (llb k hk).2 (by decide)⟩) (by omega)) ?_
 rintro v4 U4 D4 hU4 ⟨py,cy,vsy,Dya,Dyd,rfl,rfl,hry,hely,rfl⟩
 repeat (first|refine VU ?_|refine Qb fun _=>?_|refine w_al fun _=>?_)
 rename_i b5 b6
 refine JY (M:=(b6,.var (.agg #[.int .i64 rb,.int .i64 cb,.slice py nb cy]),TM)::(b5,.var (.agg #[.int .i64 ra,.int .i64 ca,.slice px na cx]),TM)::((Dya++Dyd)++((Dxa++Dxd)++[(bl,.arr [(.agg #[.int .i64 ra,.int .i64 ca,.slice pa na cca]),(.agg #[.int .i64 rb,.int .i64 cb,.slice pb nb ccb])],TM),(b3,.var (.agg #[.int .i64 rb,.int .i64 cb,.slice pb nb ccb]),TM),(b2,.var (.agg #[.int .i64 ra,.int .i64 ca,.slice pa na cca]),TM)]))) (M':=(bl,.arr [(.agg #[.int .i64 ra,.int .i64 ca,.slice pa na cca]),(.agg #[.int .i64 rb,.int .i64 cb,.slice pb nb ccb])],TM)::((b5,.var (.agg #[.int .i64 ra,.int .i64 ca,.slice px na cx]),TM)::(b6,.var (.agg #[.int .i64 rb,.int .i64 cb,.slice py nb cy]),TM)::((Dxa++Dxd)++((Dya++Dyd)++[(b3,.var (.agg #[.int .i64 rb,.int .i64 cb,.slice pb nb ccb]),TM),(b2,.var (.agg #[.int .i64 ra,.int .i64 ca,.slice pa na cca]),TM)])))) pm ?_
 refine Qbh (M':=(b5,.var (.agg #[.int .i64 ra,.int .i64 ca,.slice px na cx]),TM)::(b6,.var (.agg #[.int .i64 rb,.int .i64 cb,.slice py nb cy]),TM)::((Dxa++Dxd)++((Dya++Dyd)++[(b3,.var (.agg #[.int .i64 rb,.int .i64 cb,.slice pb nb ccb]),TM),(b2,.var (.agg #[.int .i64 ra,.int .i64 ca,.slice pa na cca]),TM)]))) (ULe.refl _) (List.sublist_cons_self ..) ?_
 refine vq (fun w hw=>Qcq (by rw [← hU0]; exact uc) hw) ?_
 obtain ⟨V0,hV0⟩:∃ V0:UH,V0=fun _=>none:=⟨_,rfl⟩
 rw [← hV0]
 have hx:=QaT hrx helx lla na5 hVa V0
 have hy:=QaT hry hely llb nb5 hVb V0
 repeat (first|refine Qc ?_|refine Qb fun _=>?_|refine w_al fun _=>?_)
 refine Qd rfl rfl rfl rfl rfl rfl (fun _=>QdG (hx.up uc sb) (hy.up uc sb)) ?_
 rintro v7 U7 D7 hU7 ⟨⟨_,e7,rfl,r7⟩,rfl⟩
 rw [List.nil_append]
 obtain ⟨h7,rfl,k7⟩:=r7.hd
 repeat (first|refine Qc ?_|refine Qb fun _=>?_|refine w_al fun _=>?_)
 refine Qd rfl rfl rfl rfl rfl rfl (fun _=>Qdm (hx.up uc sb) (hy.up uc sb)) ?_
 rintro v9 U9 D9 hU9 ⟨⟨_,e9,rfl,r9⟩,rfl⟩
 rw [List.nil_append]
 obtain ⟨h9,rfl,k9⟩:=r9.hd
 repeat (first|refine Qc ?_|refine Qb fun _=>?_|refine w_al fun _=>?_)
 refine Qd rfl rfl rfl rfl rfl rfl (fun _=>jF (hx.up uc sb)) ?_
 rintro v11 U11 D11 hU11 ⟨⟨_,e11,rfl,r11⟩,rfl⟩
 rw [List.nil_append]
 obtain ⟨h11,rfl,k11⟩:=r11.hd
 repeat (first|refine Qc ?_|refine Qb fun _=>?_|refine w_al fun _=>?_)
 refine Qd rfl rfl rfl rfl rfl rfl (fun _=>Qai (hx.up uc sb)) ?_
 rintro v13 U13 D13 hU13 ⟨⟨_,p13,e13,rfl,r13⟩,rfl⟩
 rw [List.nil_append]
 obtain ⟨h13,rfl,k13⟩:=r13.hd
 repeat (first|refine Qc ?_|refine Qb fun _=>?_|refine w_al fun _=>?_)
 refine Qd rfl rfl rfl rfl rfl rfl (fun _=>QaD (hx.up uc sb)) ?_
 rintro v16 U16 D16 hU16 ⟨⟨_,e16,rfl,r16⟩,rfl⟩
 rw [List.nil_append]
 obtain ⟨h16,rfl,k16⟩:=r16.hd
 repeat (first|refine Qc ?_|refine Qb fun _=>?_|refine w_al fun _=>?_)
 refine Qd rfl rfl rfl rfl rfl rfl (fun _=>Qac (hx.up uc sb)) ?_
 rintro v18 U18 D18 hU18 ⟨⟨_,e18,rfl,r18⟩,rfl⟩
 rw [List.nil_append]
 obtain ⟨h18,rfl,k18⟩:=r18.hd
 repeat (first|refine Qc ?_|refine Qb fun _=>?_|refine w_al fun _=>?_)
 refine Qd rfl rfl rfl rfl rfl rfl (fun _=>Qbt (hx.up uc sb)) ?_
 rintro v20 U20 D20 hU20 ⟨⟨_,e20,rfl,r20⟩,rfl⟩
 rw [List.nil_append]
 obtain ⟨h20,rfl,k20⟩:=r20.hd
 repeat (first|refine Qc ?_|refine Qb fun _=>?_|refine w_al fun _=>?_)
 refine Qs (vs:=([h7,h9,h11,h13,h16,h18,h20]).map Hd.v) sym rfl rfl rfl rfl rfl rfl (QM rfl) rfl rfl rfl rfl rfl rfl (fun bs=>?_)
 repeat (first|refine VU ?_|refine Qb fun _=>?_|refine w_al fun _=>?_)
 obtain ⟨hs,ehs⟩:∃ hs,hs=[h7,h9,h11,h13,h16,h18,h20]:=⟨_,rfl⟩
 have hkk:∀ k,k ∈ hs→RH U20 k:=by
  rw [ehs]
  intro k hk
  simp only [List.mem_cons,List.not_mem_nil,or_false] at hk
  rcases hk with rfl | rfl | rfl | rfl | rfl | rfl | rfl
  ·exact k7.up uc
  ·exact k9.up uc
  ·exact k11.up uc
  ·exact k13.up uc
  ·exact k16.up uc
  ·exact k18.up uc
  ·exact k20.up uc
 have hlen:hs.length=7:=by rw [ehs]; rfl
 rw [← ehs]
 refine Qbh (M':=(bs,.arr (hs.map Hd.v),TM)::((b5,.var (.agg #[.int .i64 ra,.int .i64 ca,.slice px na cx]),TM)::(b6,.var (.agg #[.int .i64 rb,.int .i64 cb,.slice py nb cy]),TM)::((Dxa++Dxd)++((Dya++Dyd)++[(b3,.var (.agg #[.int .i64 rb,.int .i64 cb,.slice pb nb ccb]),TM),(b2,.var (.agg #[.int .i64 ra,.int .i64 ca,.slice pa na cca]),TM)])))) (ULe.refl _) sbk ?_
 refine QaZ (fun w hw=>(⟨QaI hw,Qel hw hkk⟩:Free U20∧Reg U20 (hs.map fun k=>(k.p,k.n)))) (fun ⟨hF,hR⟩=>?_)
 have hn6:∀ k,k ∈ hs→k.n≤1000000:=fun k hk=>(hkk k hk).1
 refine Qed (E':=[(22,.slice (some ⟨bs,0,none⟩) 7 7),(5,.pointer (some ⟨b5,0,none⟩)),(6,.pointer (some ⟨b6,0,none⟩)),(2,.pointer (some ⟨b2,0,none⟩)),(3,.pointer (some ⟨b3,0,none⟩))]) ⟨rfl,rfl,rfl,rfl,rfl,trivial⟩ ?_
 have hrs:=RowO.mk (e:=TM) (s:=3) (b:=bs) (n:=7) (vs:=hs.map Hd.v) (by rw [List.length_map]; exact hlen) (fun v hv=>by
  obtain ⟨k,-,rfl⟩:=List.mem_map.1 hv
  rfl) (by omega)
 clear hkk k7 k9 k11 k13 k16 k18 k20 r7 r9 r11 r13 r16 r18 r20
 clear ehs
 generalize U20=V1 at hF hR ⊢
 clear hx hy
 try refine Qa ?_
 refine Qm (fun z E U' M'=>∃ i:Nat,i≤7∧Free U'∧Reg U' (hs.map fun k=>(k.p,k.n))∧E=[(23,.int .i64 (i:Int)),(22,.slice (some ⟨bs,0,none⟩) 7 7),(5,.pointer (some ⟨b5,0,none⟩)),(6,.pointer (some ⟨b6,0,none⟩)),(2,.pointer (some ⟨b2,0,none⟩)),(3,.pointer (some ⟨b3,0,none⟩))]∧M'=(bs,.arr (hs.map Hd.v),TM)::((b5,.var (.agg #[.int .i64 ra,.int .i64 ca,.slice px na cx]),TM)::(b6,.var (.agg #[.int .i64 rb,.int .i64 cb,.slice py nb cy]),TM)::((Dxa++Dxd)++((Dya++Dyd)++[(b3,.var (.agg #[.int .i64 rb,.int .i64 cb,.slice pb nb ccb]),TM),(b2,.var (.agg #[.int .i64 ra,.int .i64 ca,.slice pa na cca]),TM)])))∧z=7 - i) (n0:=7) (E0:=[(23,.int .i64 ((0:Nat):Int)),(22,.slice (some ⟨bs,0,none⟩) 7 7),(5,.pointer (some ⟨b5,0,none⟩)),(6,.pointer (some ⟨b6,0,none⟩)),(2,.pointer (some ⟨b2,0,none⟩)),(3,.pointer (some ⟨b3,0,none⟩))]) ⟨rfl,rfl,rfl,rfl,rfl,rfl,trivial⟩ ⟨0,by omega,hF,hR,rfl,rfl,rfl⟩ ?_
 clear hF hR
 rintro z E V2 M' ⟨i,hi,hF,hR,rfl,rfl,rfl⟩
 try refine Qa ?_
 refine Qk rfl (fun h=>?_) (fun h=>?_)
 ·have hi7:i < 7:=by omega
  obtain ⟨g,hg⟩:∃ g,hs[i]?=some g:=⟨_,List.getElem?_eq_getElem (by omega)⟩
  have hgm:=List.mem_of_getElem? hg
  have hgn:=hn6 g hgm
  have hgp:(g.p,g.n) ∈ (hs.map fun k=>(k.p,k.n)):=List.mem_map.2 ⟨g,hgm,rfl⟩
  have hgv:(hs.map Hd.v)[i]?=some g.v:=by rw [List.getElem?_map,hg]; rfl
  have rl:∀ V:UH,RowAt V ((bs,.arr (hs.map Hd.v),TM)::((b5,.var (.agg #[.int .i64 ra,.int .i64 ca,.slice px na cx]),TM)::(b6,.var (.agg #[.int .i64 rb,.int .i64 cb,.slice py nb cy]),TM)::((Dxa++Dxd)++((Dya++Dyd)++[(b3,.var (.agg #[.int .i64 rb,.int .i64 cb,.slice pb nb ccb]),TM),(b2,.var (.agg #[.int .i64 ra,.int .i64 ca,.slice pa na cca]),TM)])))) 3 (some ⟨bs,0,none⟩) 7 (hs.map Hd.v):=fun V=>hrs.at (U:=V) sb
  try refine Qa ?_
  refine Qm (fun z E U' M'=>∃ j:Nat,j≤g.n∧Free U'∧Reg U' (hs.map fun k=>(k.p,k.n))∧E=[(24,.int .i64 (j:Int)),(23,.int .i64 (i:Int)),(22,.slice (some ⟨bs,0,none⟩) 7 7),(5,.pointer (some ⟨b5,0,none⟩)),(6,.pointer (some ⟨b6,0,none⟩)),(2,.pointer (some ⟨b2,0,none⟩)),(3,.pointer (some ⟨b3,0,none⟩))]∧M'=(bs,.arr (hs.map Hd.v),TM)::((b5,.var (.agg #[.int .i64 ra,.int .i64 ca,.slice px na cx]),TM)::(b6,.var (.agg #[.int .i64 rb,.int .i64 cb,.slice py nb cy]),TM)::((Dxa++Dxd)++((Dya++Dyd)++[(b3,.var (.agg #[.int .i64 rb,.int .i64 cb,.slice pb nb ccb]),TM),(b2,.var (.agg #[.int .i64 ra,.int .i64 ca,.slice pa na cca]),TM)])))∧z=g.n - j) (n0:=g.n) (E0:=[(24,.int .i64 ((0:Nat):Int)),(23,.int .i64 (i:Int)),(22,.slice (some ⟨bs,0,none⟩) 7 7),(5,.pointer (some ⟨b5,0,none⟩)),(6,.pointer (some ⟨b6,0,none⟩)),(2,.pointer (some ⟨b2,0,none⟩)),(3,.pointer (some ⟨b3,0,none⟩))]) ⟨rfl,rfl,rfl,rfl,rfl,rfl,rfl,trivial⟩ ⟨0,by omega,hF,hR,rfl,rfl,rfl⟩ ?_
  clear hF hR
  rintro z E V3 M' ⟨j,hj,hF,hR,rfl,rfl,rfl⟩
  try refine Qa ?_
  refine QF (j:=i) hi7 rfl ?_
  try refine Qa ?_
  refine sl_y (Jf (j:=2) (u := .slice g.p g.n g.cc) sym rfl rfl (by rw [Jl]) rfl rfl (rl V3) hgv rfl) rfl rfl rfl rfl ?_
  try refine Qa ?_
  refine Qk rfl (fun h2=>?_) (fun h2=>?_)
  ·have hjn:j < g.n:=by omega
   obtain ⟨hps,he⟩:=hR _ _ hgp j hjn
   obtain ⟨_,hsv,q,nd,qc,rfl,hnd,hdg⟩:=he.s1
   try refine Qa ?_
   refine Qm (fun z E U' M'=>∃ k:Nat,k≤nd∧Free U'∧Reg U' (hs.map fun k=>(k.p,k.n))∧U'.cell? ((elt g.p (j*4)).add 1)=some (.slice q nd qc)∧(∀ t,t < nd→q.isSome=true∧isD U' (elt q t))∧E=[(25,.int .i64 (k:Int)),(24,.int .i64 (j:Int)),(23,.int .i64 (i:Int)),(22,.slice (some ⟨bs,0,none⟩) 7 7),(5,.pointer (some ⟨b5,0,none⟩)),(6,.pointer (some ⟨b6,0,none⟩)),(2,.pointer (some ⟨b2,0,none⟩)),(3,.pointer (some ⟨b3,0,none⟩))]∧M'=(bs,.arr (hs.map Hd.v),TM)::((b5,.var (.agg #[.int .i64 ra,.int .i64 ca,.slice px na cx]),TM)::(b6,.var (.agg #[.int .i64 rb,.int .i64 cb,.slice py nb cy]),TM)::((Dxa++Dxd)++((Dya++Dyd)++[(b3,.var (.agg #[.int .i64 rb,.int .i64 cb,.slice pb nb ccb]),TM),(b2,.var (.agg #[.int .i64 ra,.int .i64 ca,.slice pa na cca]),TM)])))∧z=nd - k) (n0:=nd) (E0:=[(25,.int .i64 ((0:Nat):Int)),(24,.int .i64 (j:Int)),(23,.int .i64 (i:Int)),(22,.slice (some ⟨bs,0,none⟩) 7 7),(5,.pointer (some ⟨b5,0,none⟩)),(6,.pointer (some ⟨b6,0,none⟩)),(2,.pointer (some ⟨b2,0,none⟩)),(3,.pointer (some ⟨b3,0,none⟩))]) ⟨rfl,rfl,rfl,rfl,rfl,rfl,rfl,rfl,trivial⟩ ⟨0,by omega,hF,hR,hsv,hdg,rfl,rfl,rfl⟩ ?_
   clear hF hR hsv hdg he
   rintro z E V4 M' ⟨k,hk,hF,hR,hsv,hdg,rfl,rfl,rfl⟩
   try refine Qa ?_
   refine QF (j:=i) hi7 rfl ?_
   try refine Qa ?_
   refine sl_y (Jf (j:=2) (u := .slice g.p g.n g.cc) sym rfl rfl (by rw [Jl]) rfl rfl (rl V4) hgv rfl) rfl rfl rfl rfl ?_
   try refine Qa ?_
   refine QF (j:=j) hjn hps ?_
   try refine Qa ?_
   refine sl_y (jh (v := .slice q nd qc) sym rfl rfl rfl rfl (by rw [VL]; exact hsv)) rfl rfl rfl rfl ?_
   try refine Qa ?_
   refine Qk rfl (fun h3=>?_) (fun h3=>?_)
   ·have hkn:k < nd:=by omega
    obtain ⟨hqs,hqd⟩:=hdg k hkn
    obtain ⟨c,tb,u1,u2,u3,u4,u5,u6,u7⟩:=QbF hF hqd 77
    try refine Qa ?_
    refine QF (j:=i) hi7 rfl ?_
    try refine Qa ?_
    refine sl_y (Jf (j:=2) (u := .slice g.p g.n g.cc) sym rfl rfl (by rw [Jl]) rfl rfl (rl V4) hgv rfl) rfl rfl rfl rfl ?_
    try refine Qa ?_
    refine QF (j:=j) hjn hps ?_
    try refine Qa ?_
    refine sl_y (jh (v := .slice q nd qc) sym rfl rfl rfl rfl (by rw [VL]; exact hsv)) rfl rfl rfl rfl ?_
    try refine Qa ?_
    refine QF (j:=k) hkn hqs ?_
    try refine Qa ?_
    refine jQ (b:=(elt q k).block) (off:=(elt q k).off) (c:=c) (tb:=tb) sym rfl (by
     show some (Value.pointer (some (elt q (k*1))))=_
     rw [Nat.mul_one]
     exact congrArg (fun a=>some (Value.pointer (some a))) u2) rfl u1 rfl rfl u3 rfl rfl rfl rfl ?_
    try refine Qa ?_
    exact Qi (E':=[(25,.int .i64 ((k:Int)+1)),(24,.int .i64 (j:Int)),(23,.int .i64 (i:Int)),(22,.slice (some ⟨bs,0,none⟩) 7 7),(5,.pointer (some ⟨b5,0,none⟩)),(6,.pointer (some ⟨b6,0,none⟩)),(2,.pointer (some ⟨b2,0,none⟩)),(3,.pointer (some ⟨b3,0,none⟩))]) (m:=nd - (k+1)) ⟨rfl,rfl,rfl,rfl,rfl,rfl,rfl,rfl,trivial⟩ (by omega)
     ⟨k+1,by omega,u4,hR.kp u5 u6,u7 _ _ hsv (fun z hz=>by cases hz),(fun t ht=>⟨(hdg t ht).1,u5.d _ (hdg t ht).2⟩),rfl,rfl,rfl⟩
   ·try refine Qa ?_
    refine QH [7,8] [0,1,2,3,4,5,6,7,8] sym (by kernel_rfl) ?_
    try refine Qa ?_
    refine QF (j:=i) hi7 rfl ?_
    try refine Qa ?_
    refine sl_y (Jf (j:=2) (u := .slice g.p g.n g.cc) sym rfl rfl (by rw [Jl]) rfl rfl (rl V4) hgv rfl) rfl rfl rfl rfl ?_
    try refine Qa ?_
    refine Qd rfl rfl rfl rfl rfl rfl (fun _=>QeB (W:=W)) ?_
    rintro v5 V5 D5 hV5 ⟨x5,rfl,g1,g3,hF5,rfl⟩
    rw [List.nil_append]
    have hR5:=hR.ule hV5
    obtain ⟨-,he5⟩:=hR5 _ _ hgp j hjn
    obtain ⟨c,tb,u1,u2,u3,u4,u5,u6⟩:=Qds hF5 he5 g1 g3 x5.num.neg x5.den.neg
    try refine Qa ?_
    refine QF (j:=j) hjn hps ?_
    try refine Qa ?_
    refine jQ (v:=x5.v) (b:=(elt g.p (j*4)).block) (off:=(elt g.p (j*4)).off) (c:=c) (tb:=tb) sym rfl (congrArg (fun a=>some (Value.pointer (some a))) u2) rfl u1 rfl rfl u3 rfl rfl rfl rfl ?_
    try refine Qa ?_
    exact Qi (E':=[(24,.int .i64 ((j:Int)+1)),(23,.int .i64 (i:Int)),(22,.slice (some ⟨bs,0,none⟩) 7 7),(5,.pointer (some ⟨b5,0,none⟩)),(6,.pointer (some ⟨b6,0,none⟩)),(2,.pointer (some ⟨b2,0,none⟩)),(3,.pointer (some ⟨b3,0,none⟩))]) (m:=g.n - (j+1)) ⟨rfl,rfl,rfl,rfl,rfl,rfl,rfl,trivial⟩ (by omega)
     ⟨j+1,by omega,u4,hR5.kp u5 u6,rfl,rfl,rfl⟩
  ·try refine Qa ?_
   exact Qi (E':=[(23,.int .i64 ((i:Int)+1)),(22,.slice (some ⟨bs,0,none⟩) 7 7),(5,.pointer (some ⟨b5,0,none⟩)),(6,.pointer (some ⟨b6,0,none⟩)),(2,.pointer (some ⟨b2,0,none⟩)),(3,.pointer (some ⟨b3,0,none⟩))]) (m:=7 - (i+1)) ⟨rfl,rfl,rfl,rfl,rfl,rfl,trivial⟩ (by omega) ⟨i+1,by omega,hF,hR,rfl,rfl,rfl⟩
 refine QaZ (fun w hw=>Qep hw) (fun hnew=>?_)
 refine vq (fun w hw=>Qby hw) ?_
 have hback:=QdL hnew
 rw [← hU0] at hback
 generalize back V2 W=V6 at hback ⊢
 refine JY (M:=(bs,.arr (hs.map Hd.v),TM)::((b5,.var (.agg #[.int .i64 ra,.int .i64 ca,.slice px na cx]),TM)::(b6,.var (.agg #[.int .i64 rb,.int .i64 cb,.slice py nb cy]),TM)::((Dxa++Dxd)++((Dya++Dyd)++[(b3,.var (.agg #[.int .i64 rb,.int .i64 cb,.slice pb nb ccb]),TM),(b2,.var (.agg #[.int .i64 ra,.int .i64 ca,.slice pa na cca]),TM)])))) (M':=(b5,.var (.agg #[.int .i64 ra,.int .i64 ca,.slice px na cx]),TM)::(b6,.var (.agg #[.int .i64 rb,.int .i64 cb,.slice py nb cy]),TM)::(b3,.var (.agg #[.int .i64 rb,.int .i64 cb,.slice pb nb ccb]),TM)::(b2,.var (.agg #[.int .i64 ra,.int .i64 ca,.slice pa na cca]),TM)::((bs,.arr (hs.map Hd.v),TM)::((Dxa++Dxd)++(Dya++Dyd)))) pm ?_
 have rx:RowAt V6 ((b5,.var (.agg #[.int .i64 ra,.int .i64 ca,.slice px na cx]),TM)::(b6,.var (.agg #[.int .i64 rb,.int .i64 cb,.slice py nb cy]),TM)::(b3,.var (.agg #[.int .i64 rb,.int .i64 cb,.slice pb nb ccb]),TM)::(b2,.var (.agg #[.int .i64 ra,.int .i64 ca,.slice pa na cca]),TM)::((bs,.arr (hs.map Hd.v),TM)::((Dxa++Dxd)++(Dya++Dyd)))) 4 px na vsx:=hrx.at sb
 have ex:El (Exv ((b5,.var (.agg #[.int .i64 ra,.int .i64 ca,.slice px na cx]),TM)::(b6,.var (.agg #[.int .i64 rb,.int .i64 cb,.slice py nb cy]),TM)::(b3,.var (.agg #[.int .i64 rb,.int .i64 cb,.slice pb nb ccb]),TM)::(b2,.var (.agg #[.int .i64 ra,.int .i64 ca,.slice pa na cca]),TM)::((bs,.arr (hs.map Hd.v),TM)::((Dxa++Dxd)++(Dya++Dyd))))) V6 vsx La:=JV (helx V6) (ULe.refl _) sb
 have ry:RowAt V6 ((b5,.var (.agg #[.int .i64 ra,.int .i64 ca,.slice px na cx]),TM)::(b6,.var (.agg #[.int .i64 rb,.int .i64 cb,.slice py nb cy]),TM)::(b3,.var (.agg #[.int .i64 rb,.int .i64 cb,.slice pb nb ccb]),TM)::(b2,.var (.agg #[.int .i64 ra,.int .i64 ca,.slice pa na cca]),TM)::((bs,.arr (hs.map Hd.v),TM)::((Dxa++Dxd)++(Dya++Dyd)))) 4 py nb vsy:=hry.at sb
 have ey:El (Exv ((b5,.var (.agg #[.int .i64 ra,.int .i64 ca,.slice px na cx]),TM)::(b6,.var (.agg #[.int .i64 rb,.int .i64 cb,.slice py nb cy]),TM)::(b3,.var (.agg #[.int .i64 rb,.int .i64 cb,.slice pb nb ccb]),TM)::(b2,.var (.agg #[.int .i64 ra,.int .i64 ca,.slice pa na cca]),TM)::((bs,.arr (hs.map Hd.v),TM)::((Dxa++Dxd)++(Dya++Dyd))))) V6 vsy Lb:=JV (hely V6) (ULe.refl _) sb
 repeat (first|refine Qc ?_|refine Qb fun _=>?_|refine w_al fun _=>?_)
 refine Qd rfl rfl rfl rfl rfl rfl (fun _=>YQ (rx.up (ULe.refl _) (List.sublist_append_right ..)) (JV ex (ULe.refl _) (List.sublist_append_right ..)) (rwa.up hback (List.nil_sublist _)) (JV exa hback (List.nil_sublist _)) (by omega)) ?_
 rintro v8 V8 D8 hV8 ⟨rfl,rfl,rfl⟩
 rw [List.nil_append]
 repeat (first|refine Qc ?_|refine Qb fun _=>?_|refine w_al fun _=>?_)
 refine Qd rfl rfl rfl rfl rfl rfl (fun _=>YQ (ry.up (ULe.refl _) (List.sublist_append_right ..)) (JV ey (ULe.refl _) (List.sublist_append_right ..)) (rwb.up hback (List.nil_sublist _)) (JV exb hback (List.nil_sublist _)) (by omega)) ?_
 rintro v8 V8 D8 hV8 ⟨rfl,rfl,rfl⟩
 rw [List.nil_append]
 repeat (first|refine Qc ?_|refine Qb fun _=>?_|refine w_al fun _=>?_)
 exact Qe [] sym rfl (.cons (.tmp rfl) .nil) uc sb (.inl rfl) rfl
end Go.Proofs.Ytahcddpdgpjbnaa
