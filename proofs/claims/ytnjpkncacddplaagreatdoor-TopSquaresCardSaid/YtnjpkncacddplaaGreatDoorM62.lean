/- Texts of this seat's own, merged: each begins with its own remark. -/
import Derived.Test.YtnjpkncacddplaaGreatDoorM53
import Derived.Test.YtnjpkncacddplaaGreatDoorM14
import Derived.Test.YtnjpkncacddplaaGreatDoorM56
import Derived.Test.YtnjpkncacddplaaGreatDoorM16
import Derived.Test.YtnjpkncacddplaaGreatDoorM1
import Derived.Test.YtnjpkncacddplaaGreatDoorM58
import Derived.Test.YtnjpkncacddplaaGreatDoorM60
/- Walk of series.Mul. -/
namespace Go.Hp
theorem Qlf {P:Program} {N:Nat} {G:World} {U:UH} {M:MH} {E:Env} {o:Oper} {x y z:Operand} {ts:Array TypeId} {k:IntKind} {a b c:Int} (ho:o.op = .call { callee := .builtin .min,args := #[x,y,z],argTypes:=ts }) (hx:ev E x=some (.int k a)) (hy:ev E y=some (.int k b)) (hz:ev E z=some (.int k c)) :
  Yl P N G o E U M (.int k (if c < (if b < a then b else a) then c else if b < a then b else a)) :=
 ⟨fun act w ha hm=>by simp [execOp,ho,ha.eval hx,ha.eval hy,ha.eval hz,resolve,invoke,builtin,Builtin.min_,Builtin.min2]⟩
end Go.Hp
namespace Go.Proofs.YtnjpkncacddplaaGreatDoor
open Go.Hp
variable {G:World} {U U':UH} {M:MH}
def cnvp (g h:Nat→Rat) (k i:Nat):Rat:=La.sm i fun t=>g t*h (k - t)
def cnv (g h:Nat→Rat) (k:Nat):Rat:=cnvp g h k (k+1)
theorem Qcr {g h:Nat→Rat} {k:Nat} (hg:∀ i,Szq (g i) 1) (hh:∀ i,Szq (h i) 1):∀ i,Szq (cnvp g h k i) (3*i+1)
 | 0=>jr
 | i+1=>((Qcr hg hh i).add ((hg i).mul (hh (k - i)))).mono (by omega)
theorem ls_w {N b:Nat} {v:Value} {g:Nat→Rat} (h:Ls Vq 4 N U M v g) (hz:∀ i,i < N→Szq (g i) b):Ls (Wq b) 4 N U M v g:=by
 obtain ⟨p,c,vs,h1,h2,h3,h4⟩:=h
 exact ⟨p,c,vs,h1,h2,h3,fun k x hk=>(h4 k x hk).w (hz k (by rw [← h3.len]; exact (List.getElem?_eq_some_iff.1 hk).1))⟩
set_option maxHeartbeats 4000000 in
theorem QlC {P:Nat} {v w:Value} {g h:Nat→Rat} (hv:Vser Vq U [] v 0 P g) (hw:Vser Vq U [] w 0 P h) (sg:∀ i,Szq (g i) 1) (sh:∀ i,Szq (h i) 1) (kg:Skp g P 0) (kh:Skp h P 0) (kc:Skp (cnv g h) P 0) (hP:P≤100) :
  Ct Tryz.prog 24 [v,w] G U M fun v U' D=>∃ r,v = .tuple #[r,.int .i64 0]∧Vser Vq U' [] r 0 P (cnv g h)∧D=[]:=by
 obtain ⟨_,rfl,hv⟩:=hv
 obtain ⟨_,rfl,hw⟩:=hw
 obtain ⟨p1,c1,vs1,rfl,-⟩:=id hv
 obtain ⟨p2,c2,vs2,rfl,-⟩:=id hw
 refine Qi Tryz.func24 rfl rfl rfl rfl ?_
 repeat (first|refine Qc ?_|refine Qb fun _=>?_|refine w_al fun _=>?_)
 rename_i b2 b3 b4
 refine Qd rfl rfl rfl rfl rfl rfl (fun _=>qQ (ok:=Vq) ⟨_,rfl,hv.up QI uc (List.nil_sublist _)⟩ (by decide) (by decide) (by omega)) ?_
 rintro v U' D hU ⟨rfl,rfl,rfl⟩
 repeat (first|refine Qc ?_|refine Qb fun _=>?_|refine w_al fun _=>?_)
 refine Qd rfl rfl rfl rfl rfl rfl (fun _=>qQ (ok:=Vq) ⟨_,rfl,hw.up QI uc (List.nil_sublist _)⟩ (by decide) (by decide) (by omega)) ?_
 rintro v U' D hU ⟨rfl,rfl,rfl⟩
 repeat (first|refine Qc ?_|refine Qb fun _=>?_|refine w_al fun _=>?_)
 rw [List.nil_append,List.nil_append]
 try refine Qa ?_
 refine QG [3,4,5] [0,2,1,3,4,5] sym (by kernel_rfl) ?_
 try refine Qa ?_
 have hvw:=ls_w hv fun i _=>sg i
 have hww:=ls_w hw fun i _=>sh i
 refine Qd rfl rfl rfl rfl rfl rfl (fun _=>vS (N:=P) (b:=1) (f:=0) ⟨_,rfl,hvw.up Vh uc (List.nil_sublist _)⟩ (by decide) (by decide) (by decide) (by decide) (by omega)) ?_
 rintro v22 U22 D hU22 ⟨s,hs,⟨_,rfl,ta⟩,rfl⟩
 obtain rfl:=hs.uniq kg
 rw [List.nil_append]
 simp only [Nat.sub_zero,Nat.zero_add] at ta
 obtain ⟨pa,ca,as1,rfl,hca,ra,ea⟩:=ta
 try refine Qa ?_
 refine Qd rfl rfl rfl rfl rfl rfl (fun _=>vS (N:=P) (b:=1) (f:=0) ⟨_,rfl,hww.up Vh uc (List.nil_sublist _)⟩ (by decide) (by decide) (by decide) (by decide) (by omega)) ?_
 rintro v24 U24 D hU24 ⟨s,hs,⟨_,rfl,tb⟩,rfl⟩
 obtain rfl:=hs.uniq kh
 rw [List.nil_append]
 simp only [Nat.sub_zero,Nat.zero_add] at tb
 obtain ⟨pb,cb,bs1,rfl,hcb,rb,eb⟩:=tb
 rw [show (0:Int)+((0:Nat):Int)=0 from rfl]
 repeat (first|refine Qc ?_|refine Qb fun _=>?_|refine w_al fun _=>?_)
 refine sl_y (Qlf rfl rfl rfl rfl) rfl rfl rfl rfl ?_
 repeat (first|refine Qc ?_|refine Qb fun _=>?_|refine w_al fun _=>?_)
 rw [show (if (if (1000:Int) - (0+0) < (if (P:Int) < (P:Int) then (P:Int) else (P:Int)) then (1000:Int) - (0+0) else if (P:Int) < (P:Int) then (P:Int) else (P:Int)) > 0 then (if (1000:Int) - (0+0) < (if (P:Int) < (P:Int) then (P:Int) else (P:Int)) then (1000:Int) - (0+0) else if (P:Int) < (P:Int) then (P:Int) else (P:Int)) else 0)=(P:Int) by omega]
 refine Jd (m:=0) (n:=P) sym rfl rfl rfl rfl rfl rfl (by omega) rfl rfl (Nat.zero_le _) (by omega) (by omega) rfl rfl rfl rfl (fun b41=>?_)
 have hrow:=qZ (e:=TR) (s:=4) (b:=b41) (c:=P) (z:=zeroQV.v) rfl (by omega)
 refine Qm (M':=(b4,.var (.agg #[.int .i64 0,.slice none 0 0]),61)::(b3,.var (.agg #[.int .i64 0,.slice pb P cb]),61)::(b2,.var (.agg #[.int .i64 0,.slice pa P ca]),61)::([(b41,.arr (List.replicate P zeroQV.v),TR)]++M)) ?_ pgj
 generalize [(b41,Blk.arr (List.replicate P zeroQV.v),TR)]=D0 at hrow ⊢
 rw [show (0:Int)+0=0 from rfl]
 try refine Qa ?_
 try refine Jh (M':=(b4,.var (.agg #[.int .i64 0,.slice none 0 0]),61)::(b3,.var (.agg #[.int .i64 0,.slice pb P cb]),61)::(b2,.var (.agg #[.int .i64 0,.slice pa P ca]),61)::(D0++M)) (ULe.refl _) sbk ?_
 refine Qp (fun z E U' M'=>∃ (k:Nat) (Q:Option Addr) (C:Nat) (us:List Value) (D:MH),k≤P∧RowO TR 4 D Q k C us∧El Vq U' us (cnv g h)∧E=[(43,.int .i64 (k:Int)),(42,.int .i64 (P:Int)),(8,.slice Q k C),(2,.pointer (some ⟨b2,0,none⟩)),(3,.pointer (some ⟨b3,0,none⟩)),(4,.pointer (some ⟨b4,0,none⟩)),(5,.int .i64 0),(6,.int .i64 0)]∧ULe U24 U'∧M'=(b4,.var (.agg #[.int .i64 0,.slice none 0 0]),61)::(b3,.var (.agg #[.int .i64 0,.slice pb P cb]),61)::(b2,.var (.agg #[.int .i64 0,.slice pa P ca]),61)::(D++M)∧z=P - k) (n0:=P - 0) (E0:=[(43,.int .i64 ((0:Nat):Int)),(42,.int .i64 (P:Int)),(8,.slice (some ⟨b41,0,none⟩) 0 P),(2,.pointer (some ⟨b2,0,none⟩)),(3,.pointer (some ⟨b3,0,none⟩)),(4,.pointer (some ⟨b4,0,none⟩)),(5,.int .i64 0),(6,.int .i64 0)]) ⟨rfl,rfl,rfl,rfl,rfl,rfl,rfl,rfl,trivial⟩ ⟨0,some ⟨b41,0,none⟩,P,[],D0,by omega,hrow,El.nil,rfl,uc,rfl,rfl⟩ ?_
 clear hrow
 rintro z E U3 M' ⟨k,Q,C,us,D,hk,hrow,hel,rfl,hU3,rfl,rfl⟩
 try refine Qa ?_
 refine Qk rfl (fun h1=>?_) (fun h1=>?_)
 ·have hkP:k < P:=by omega
  repeat (first|refine Qc ?_|refine Qb fun _=>?_|refine w_al fun _=>?_)
  refine Qd rfl rfl rfl rfl rfl rfl (fun _=>(VE (z:=0) (by decide) (by decide)).settle) ?_
  rintro v Uh46 D hU ⟨rfl,_,_,⟨xh46,rfl,h46,-⟩,-,-,hs⟩
  replace h46:=h46.sett hs
  clear hs
  repeat (first|refine Qc ?_|refine Qb fun _=>?_|refine w_al fun _=>?_)
  rename_i b10
  have z46:xh46.nrm Uh46 [] (cnvp g h k 0):=h46
  try refine Jh (M':=(b10,.var xh46.v,TR)::(b4,.var (.agg #[.int .i64 0,.slice none 0 0]),61)::(b3,.var (.agg #[.int .i64 0,.slice pb P cb]),61)::(b2,.var (.agg #[.int .i64 0,.slice pa P ca]),61)::(D++M)) (ULe.refl _) sbk ?_
  refine Qp (fun z E U' M'=>∃ (j:Nat) (x:QV),j≤k+1∧x.nrm U' [] (cnvp g h k j)∧E=[(11,.int .i64 (j:Int)),(10,.pointer (some ⟨b10,0,none⟩)),(9,.int .i64 (k:Int)),(43,.int .i64 (k:Int)),(42,.int .i64 (P:Int)),(8,.slice Q k C),(2,.pointer (some ⟨b2,0,none⟩)),(3,.pointer (some ⟨b3,0,none⟩)),(4,.pointer (some ⟨b4,0,none⟩)),(5,.int .i64 0),(6,.int .i64 0)]∧ULe Uh46 U'∧M'=(b10,.var x.v,TR)::(b4,.var (.agg #[.int .i64 0,.slice none 0 0]),61)::(b3,.var (.agg #[.int .i64 0,.slice pb P cb]),61)::(b2,.var (.agg #[.int .i64 0,.slice pa P ca]),61)::(D++M)∧z=k+1 - j) (n0:=k+1 - 0) (E0:=[(11,.int .i64 ((0:Nat):Int)),(10,.pointer (some ⟨b10,0,none⟩)),(9,.int .i64 (k:Int)),(43,.int .i64 (k:Int)),(42,.int .i64 (P:Int)),(8,.slice Q k C),(2,.pointer (some ⟨b2,0,none⟩)),(3,.pointer (some ⟨b3,0,none⟩)),(4,.pointer (some ⟨b4,0,none⟩)),(5,.int .i64 0),(6,.int .i64 0)]) ⟨rfl,rfl,rfl,rfl,rfl,rfl,rfl,rfl,rfl,rfl,rfl,trivial⟩ ⟨0,xh46,by omega,z46.up uc (List.Sublist.refl _),rfl,uc,rfl,rfl⟩ ?_
  rintro z E U4 M' ⟨j,x,hj,hx,rfl,hU4,rfl,rfl⟩
  try refine Qa ?_
  refine Qk rfl (fun h2=>?_) (fun h2=>?_)
  ·have hjk:j≤k:=by omega
   obtain ⟨v1,hv1⟩:=ra.at (k:=j) (by omega)
   obtain ⟨x1,rfl,hx1⟩:=ea _ _ hv1
   obtain ⟨v2,hv2⟩:=rb.at (k:=k - j) (by omega)
   obtain ⟨x2,rfl,hx2⟩:=eb _ _ hv2
   have hkj:(k:Int) - (j:Int)=((k - j:Nat):Int):=by omega
   have sj:=Qcr sg sh (k:=k) j
   have hstep:cnvp g h k (j+1)=cnvp g h k j+g j*h (k - j):=rfl
   try refine Qa ?_
   refine sl_y (Qg sym rfl rfl rfl rfl rfl rfl ((ra.up uc sb).lt hv1) ((ra.up uc sb).get _ _ hv1).1) rfl rfl rfl rfl ?_; refine sl_y (Qr sym rfl rfl rfl rfl rfl (ra.up uc sb) hv1) rfl rfl rfl rfl ?_
   try refine Qa ?_
   refine Qd rfl rfl rfl rfl rfl rfl (fun _=>YX (hx1.rep.up uc (List.nil_sublist _)) (hx1.le (sg j) (by decide))) ?_
   rintro v U' D hU ⟨rfl,rfl,rfl⟩
   repeat (first|refine Qc ?_|refine Qb fun _=>?_|refine w_al fun _=>?_)
   refine QB rfl rfl (fun h3=>?_) (fun h3=>?_)
   ·try refine Qa ?_
    refine sl_y (Qg sym rfl rfl rfl rfl rfl ( hkj) ((rb.up uc sb).lt hv2) ((rb.up uc sb).get _ _ hv2).1) rfl rfl rfl rfl ?_; refine sl_y (Qr sym rfl rfl rfl rfl rfl (rb.up uc sb) hv2) rfl rfl rfl rfl ?_
    try refine Qa ?_
    refine Qd rfl rfl rfl rfl rfl rfl (fun _=>YX (hx2.rep.up uc (List.nil_sublist _)) (hx2.le (sh (k - j)) (by decide))) ?_
    rintro v U' D hU ⟨rfl,rfl,rfl⟩
    repeat (first|refine Qc ?_|refine Qb fun _=>?_|refine w_al fun _=>?_)
    refine JX rfl (fun h4=>?_) (fun h4=>?_)
    ·try refine Qa ?_
     refine QG [14,15] [0,1,2,3,4,5,6,7,8,9,10,11,12,13,14,15] sym (by kernel_rfl) ?_
     try refine Qa ?_
     refine sl_y (Qg sym rfl rfl rfl rfl rfl rfl ((ra.up uc sb).lt hv1) ((ra.up uc sb).get _ _ hv1).1) rfl rfl rfl rfl ?_; refine sl_y (Qr sym rfl rfl rfl rfl rfl (ra.up uc sb) hv1) rfl rfl rfl rfl ?_
     try refine Qa ?_
     refine sl_y (Qg sym rfl rfl rfl rfl rfl ( hkj) ((rb.up uc sb).lt hv2) ((rb.up uc sb).get _ _ hv2).1) rfl rfl rfl rfl ?_; refine sl_y (Qr sym rfl rfl rfl rfl rfl (rb.up uc sb) hv2) rfl rfl rfl rfl ?_
     try refine Qa ?_
     refine Qd rfl rfl rfl rfl rfl rfl (fun _=>(VL (hx1.rep.up uc (List.nil_sublist _)) (hx1.le (sg j) (by decide)) (hx2.rep.up uc (List.nil_sublist _)) (hx2.le (sh (k - j)) (by decide))).settle) ?_
     rintro v Uh83 D hU ⟨rfl,_,_,⟨xh83,rfl,h83,-⟩,-,-,hs⟩
     replace h83:=h83.sett hs
     clear hs
     repeat (first|refine Qc ?_|refine Qb fun _=>?_|refine w_al fun _=>?_)
     refine Qd rfl rfl rfl rfl rfl rfl (fun _=>(VK (hx.rep.up uc (List.nil_sublist _)) (hx.le sj (by omega)) (h83.rep.up uc (List.nil_sublist _)) (h83.le ((sg j).mul (sh (k - j))) (by decide))).settle) ?_
     rintro v Uh84 D hU ⟨rfl,_,_,⟨xh84,rfl,h84,-⟩,-,-,hs⟩
     replace h84:=h84.sett hs
     clear hs
     repeat (first|refine Qc ?_|refine Qb fun _=>?_|refine w_al fun _=>?_)
     exact Qj (E':=[(11,.int .i64 ((j:Int)+1)),(10,.pointer (some ⟨b10,0,none⟩)),(9,.int .i64 (k:Int)),(43,.int .i64 (k:Int)),(42,.int .i64 (P:Int)),(8,.slice Q k C),(2,.pointer (some ⟨b2,0,none⟩)),(3,.pointer (some ⟨b3,0,none⟩)),(4,.pointer (some ⟨b4,0,none⟩)),(5,.int .i64 0),(6,.int .i64 0)]) (m:=k+1 - (j+1)) ⟨rfl,rfl,rfl,rfl,rfl,rfl,rfl,rfl,rfl,rfl,rfl,trivial⟩ (by omega) ⟨j+1,xh84,by omega,h84,rfl,uc,rfl,rfl⟩
    ·have e0:h (k - j)=0:=Rat.num_eq_zero.1 (Int.sign_eq_zero_iff_zero.1 h4)
     rw [e0,Rat.mul_zero,Rat.add_zero] at hstep
     try refine Qa ?_
     exact Qj (E':=[(11,.int .i64 ((j:Int)+1)),(10,.pointer (some ⟨b10,0,none⟩)),(9,.int .i64 (k:Int)),(43,.int .i64 (k:Int)),(42,.int .i64 (P:Int)),(8,.slice Q k C),(2,.pointer (some ⟨b2,0,none⟩)),(3,.pointer (some ⟨b3,0,none⟩)),(4,.pointer (some ⟨b4,0,none⟩)),(5,.int .i64 0),(6,.int .i64 0)]) (m:=k+1 - (j+1)) ⟨rfl,rfl,rfl,rfl,rfl,rfl,rfl,rfl,rfl,rfl,rfl,trivial⟩ (by omega) ⟨j+1,x,by omega,by rw [hstep]; exact hx.up uc (List.Sublist.refl _),rfl,uc,rfl,rfl⟩
   ·have e0:g j=0:=Rat.num_eq_zero.1 (Int.sign_eq_zero_iff_zero.1 (Classical.not_not.1 h3))
    rw [e0,Rat.zero_mul,Rat.add_zero] at hstep
    try refine Qa ?_
    exact Qj (E':=[(11,.int .i64 ((j:Int)+1)),(10,.pointer (some ⟨b10,0,none⟩)),(9,.int .i64 (k:Int)),(43,.int .i64 (k:Int)),(42,.int .i64 (P:Int)),(8,.slice Q k C),(2,.pointer (some ⟨b2,0,none⟩)),(3,.pointer (some ⟨b3,0,none⟩)),(4,.pointer (some ⟨b4,0,none⟩)),(5,.int .i64 0),(6,.int .i64 0)]) (m:=k+1 - (j+1)) ⟨rfl,rfl,rfl,rfl,rfl,rfl,rfl,rfl,rfl,rfl,rfl,trivial⟩ (by omega) ⟨j+1,x,by omega,by rw [hstep]; exact hx.up uc (List.Sublist.refl _),rfl,uc,rfl,rfl⟩
  ·obtain rfl:k+1=j:=by omega
   try refine Qa ?_
   refine yd hrow (X:=(b10,.var x.v,TR)::(b4,.var (.agg #[.int .i64 0,.slice none 0 0]),61)::(b3,.var (.agg #[.int .i64 0,.slice pb P cb]),61)::(b2,.var (.agg #[.int .i64 0,.slice pa P ca]),61)::M) pgj (fun b P2 C2 D2 hr2=>?_)
   refine Qm (M':=(b10,.var x.v,TR)::(b4,.var (.agg #[.int .i64 0,.slice none 0 0]),61)::(b3,.var (.agg #[.int .i64 0,.slice pb P cb]),61)::(b2,.var (.agg #[.int .i64 0,.slice pa P ca]),61)::(D2++M)) ?_ pgj
   try refine Qa ?_
   refine VM (M':=(b4,.var (.agg #[.int .i64 0,.slice none 0 0]),61)::(b3,.var (.agg #[.int .i64 0,.slice pb P cb]),61)::(b2,.var (.agg #[.int .i64 0,.slice pa P ca]),61)::(D2++M)) (ULe.refl _) sbk ?_
   exact Qj (E':=[(43,.int .i64 ((k:Int)+1)),(42,.int .i64 (P:Int)),(8,.slice P2 (k+1) C2),(2,.pointer (some ⟨b2,0,none⟩)),(3,.pointer (some ⟨b3,0,none⟩)),(4,.pointer (some ⟨b4,0,none⟩)),(5,.int .i64 0),(6,.int .i64 0)]) (m:=P - (k+1)) ⟨rfl,rfl,rfl,rfl,rfl,rfl,rfl,rfl,trivial⟩ (by omega) ⟨k+1,P2,C2,_,D2,by omega,hr2,qC hrow.len.1 (hel.up QI uc) ⟨x,rfl,hx⟩,rfl,uc,rfl,rfl⟩
 ·obtain rfl:P=k:=by omega
  have hser:Ls (Wq 1000) 4 P U3 ((b4,.var (.agg #[.int .i64 0,.slice none 0 0]),61)::(b3,.var (.agg #[.int .i64 0,.slice pb P cb]),61)::(b2,.var (.agg #[.int .i64 0,.slice pa P ca]),61)::(D++M)) (.slice Q P C) (cnv g h):=ls_w ⟨_,_,us,rfl,hrow.len.2.1,hrow.at sb,hel⟩ fun i hi=>(Qcr sg sh (i+1)).mono (by omega)
  repeat (first|refine Qc ?_|refine Qb fun _=>?_|refine w_al fun _=>?_)
  refine Qd rfl rfl rfl rfl rfl rfl (fun _=>yf (f:=0) (hser.up Vh uc sb) (by decide) (by decide) (by omega) (by decide) (by decide)) ?_
  rintro v92 U92 D92 hU92 ⟨s,r,hs,rfl,hvs,rfl⟩
  rw [show min P (1000 - (0:Int)).toNat=P by omega] at hs hvs
  obtain rfl:=hs.uniq kc
  simp only [Nat.sub_zero,Nat.zero_add] at hvs
  obtain ⟨_,rfl,hvs⟩:=hvs
  obtain ⟨pv,cv',us',rfl,-⟩:=id hvs
  rw [List.nil_append]
  repeat (first|refine Qc ?_|refine Qb fun _=>?_|refine w_al fun _=>?_)
  exact Qf [] sym rfl (.cons (.cell 0 rfl rfl rfl) (.cons (.tmp rfl) .nil)) uc sb (.inl rfl) ⟨_,rfl,⟨_,rfl,hvs⟩,rfl⟩
end Go.Proofs.YtnjpkncacddplaaGreatDoor

/- Walks of series.Expand, Cut. -/
namespace Go.Proofs.YtnjpkncacddplaaGreatDoor
open Go.Hp
variable {G:World} {U U':UH} {M:MH}
def exq (d:Nat) (g:Nat→Rat) (k:Nat):Rat:=if k % d=0 then g (k / d) else 0
def exi (d:Nat) (g:Nat→Rat) (i k:Nat):Rat:=if k % d=0∧k / d < i then g (k / d) else 0
end Go.Proofs.YtnjpkncacddplaaGreatDoor

/- Orthogonal sums of forms: plain. -/
namespace Go.Proofs.YtnjpkncacddplaaGreatDoor
open Go.Hp
open Go.La (Eqm)
variable {G:World} {U U':UH} {M:MH}
def sgf (n1 n2:Nat) (f1 f2:Nat→Int):Nat→Int:=sgc (n1+n2) n1 n2 f1 f2 n1 n2
end Go.Proofs.YtnjpkncacddplaaGreatDoor

/- Orthogonal sums and multiples of forms: the counts. -/
namespace Go.Proofs.YtnjpkncacddplaaGreatDoor
open Go.Hp
open Go.La (Eqm)
variable {G:World} {U U':UH} {M:MH}
theorem QjI {n:Nat} {f:Nat→Int} {b:Nat→Nat}:1≤cv n f b (Bx.pre b n) 0:=by
 obtain ⟨k,hk,hv⟩:=Bx.vec_ex (b:=b) n (fun _=>0) fun i _=>⟨by omega,by omega⟩
 have h0:vn n f b k=0:=by
  unfold vn
  rw [QdA hv]
  have:qp n f (fun _=>0) n=0:=by
   unfold qp
   exact Lr.sm_zero fun a _=>Int.zero_mul _
  unfold qv
  rw [this]; rfl
 unfold cv
 rw [← Bx.pre_vol,Bx.cnt_drop (f:=fun t=>vn n f b t == 0) hk (beq_iff_eq.2 h0)]
 omega
theorem mul_inv {n:Nat} {f g:Nat→Int} {d:Int} {X:Nat→Nat→Rat} (h1:chk (n:Int) (n*n) g=0) (hd:1≤d) (h:∀ k,g k=d*f k) (hX:Inv n f X):Inv n g (fun i j=>(d:Rat)⁻¹*X i j):=by
 obtain ⟨m,e,a1,a8,-,b,v,p⟩:=jP h1
 obtain rfl:n=m:=Int.ofNat.inj e
 have hd0:(d:Rat)≠0:=fun h0=>by
  have:=Rat.intCast_inj.1 (h0.trans (show (0:Rat)=((0:Int):Rat) from rfl))
  omega
 refine Qfg b v p a1 a8 fun i j hi hj=>?_
 rw [← hX.left i j hi hj]
 refine La.sm_congr fun k _=>?_
 show (d:Rat)⁻¹*X i k*((g (k*n+j):Int):Rat)=X i k*((f (k*n+j):Int):Rat)
 rw [h,Rat.intCast_mul,Rat.mul_comm ((d:Rat)⁻¹),Rat.mul_assoc,← Rat.mul_assoc ((d:Rat)⁻¹),Rat.inv_mul_cancel _ hd0,Rat.one_mul]
end Go.Proofs.YtnjpkncacddplaaGreatDoor
