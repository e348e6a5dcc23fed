/- Texts of this seat's own, merged: each begins with its own remark. -/
import Derived.Test.YtnjpkncacddplaaGreatM56
import Derived.Test.YtnjpkncacddplaaGreatM18
import Derived.Test.YtnjpkncacddplaaGreatM10
import Derived.Test.YtnjpkncacddplaaGreatM8
import Derived.Test.YtnjpkncacddplaaGreatM4
import Derived.Test.YtnjpkncacddplaaGreatM2
import Derived.Test.YtnjpkncacddplaaGreatM7
import Derived.Test.YtnjpkncacddplaaGreatM14
import Derived.Test.YtnjpkncacddplaaGreatM50
import Derived.Test.YtnjpkncacddplaaGreatB193
import Derived.Test.YtnjpkncacddplaaGreatM43
import Derived.Test.YtnjpkncacddplaaGreatM51
import Derived.Test.YtnjpkncacddplaaGreatM131
import Derived.Test.YtnjpkncacddplaaGreatM58
import Derived.Test.YtnjpkncacddplaaGreatM53
import Derived.Test.YtnjpkncacddplaaGreatM134
/- Walks of reference 33: free, Fundamental; square of reference 36. -/
namespace Go.Proofs.YtnjpkncacddplaaGreat
open Go.Hp
variable {G:World} {U U':UH} {M:MH}
def Fdm (z:Int):Prop:=z % 4=1∧Fq.Sqf z.natAbs∨z % 4=0∧(z / 4) % 4 > 1∧Fq.Sqf (z / 4).natAbs
end Go.Proofs.YtnjpkncacddplaaGreat

/- Walks of layer 36's reference: Disc. -/
namespace Go.Proofs.YtnjpkncacddplaaGreat
open Go.Hp
variable {G:World} {U U':UH} {M:MH}
def dtn (n:Nat) (f:Nat→Int):Nat:=(Lr.det n (gz n f)).natAbs
def sgd (n:Nat):Int:=if n % 4=0 then 1 else -1
theorem vt (n:Nat):sgd n=1∨sgd n = -1:=by unfold sgd; split; exact .inl rfl; exact .inr rfl
def DscO (n:Nat) (f:Nat→Int) (v:Value):Prop :=
 (∃ d:Nat,1≤d∧d≤600∧Fq.Cnd (dtn n f) (sgd n) (sgd n) d∧v = .tuple #[.int .i64 (sgd n*d),.int .i64 0])∨((∀ d:Nat,d≤600→¬ Fq.Cnd (dtn n f) (sgd n) (sgd n) d)∧v = .tuple #[.int .i64 0,.int .i64 7])
end Go.Proofs.YtnjpkncacddplaaGreat

/- Walks of layer 36: Disc. -/
namespace Go.Proofs.YtnjpkncacddplaaGreat
open Go.Hp
open Go.Fq (Prm Sqf)
variable {G:World} {U U':UH} {M:MH}
structure Dst (D:Nat) (P:Nat→Nat) (k Fn w lf:Nat):Prop where
 eq:D=Fn*(w*w)*lf
 w0:0 < w
 l0:0 < lf
 sq:Sqf Fn
 of:∀ q,Prm q→q ∣ Fn→∃ i,i < k∧P i=q
 no:∀ i,i < k→¬ P i ∣ lf
 le:Fn≤600
theorem Dst.next {D k Fn w lf w' lf':Nat} {P:Nat→Nat} (h:Dst D P k Fn w lf) (hd:lf' ∣ lf) (h0:0 < lf') (hw:0 < w') (he:D=Fn*(w'*w')*1*lf') (hp:¬ P k ∣ lf'):Dst D P (k+1) Fn w' lf' :=
 ⟨by rw [he,Nat.mul_one],hw,h0,h.sq,fun q h1 h2=>by
  obtain ⟨i,h3,h4⟩:=h.of q h1 h2
  exact ⟨i,by omega,h4⟩,fun i hi h1=>by
  rcases Nat.lt_or_eq_of_le (Nat.le_of_lt_succ hi) with h2 | h2
  ·exact h.no i h2 (Nat.dvd_trans h1 hd)
  ·exact hp (h2 ▸ h1),h.le⟩
theorem Dst.odd {D k K p0 Fn w lf w' lf':Nat} {P:Nat→Nat} (h:Dst D P k Fn w lf) (hP:PrL p0 K P) (hk:k < K) (hd:lf' ∣ lf) (he:D=Fn*(w'*w')*P k*lf') (hp:¬ P k ∣ lf') :
  Sqf (Fn*P k)∧D=Fn*P k*(w'*w')*lf'∧(∀ q,Prm q→q ∣ Fn*P k→∃ i,i < k+1∧P i=q)∧∀ i,i < k+1→¬ P i ∣ lf':=by
 have hpk:=(hP.prm k hk).1
 refine ⟨h.sq.mul hpk fun h1=>?_,by rw [he]; simp only [Nat.mul_left_comm,Nat.mul_comm],fun q h1 h2=>?_,fun i hi h1=>?_⟩
 ·obtain ⟨i,h2,h3⟩:=h.of _ hpk h1
  have:=hP.mono i k h2 hk
  omega
 ·rcases Fq.prm_mul h1 h2 with h3 | h3
  ·obtain ⟨i,h4,h5⟩:=h.of q h1 h3
   exact ⟨i,by omega,h5⟩
  ·exact ⟨k,by omega,(Fq.prm_dvd h1 hpk h3).symm⟩
 ·rcases Nat.lt_or_eq_of_le (Nat.le_of_lt_succ hi) with h2 | h2
  ·exact h.no i h2 (Nat.dvd_trans h1 hd)
  ·exact hp (h2 ▸ h1)
theorem Qgt {p k:Nat} {F:Nat→Nat} (h:PrL p k F):∀ i,i < k→i≤F i
 | 0,_=>Nat.zero_le _
 | i+1,hi=>by
  have h1:=Qgt h i (by omega)
  have h2:=h.mono i (i+1) (by omega) hi
  omega
def DscP (n:Nat) (f:Nat→Int) (v:Value):Prop :=
 (∃ d:Nat,1≤d∧d≤600∧(∀ a:Nat,a≤600→(Fq.Cnd (dtn n f) (sgd n) (sgd n) a↔a=d))∧v = .tuple #[.int .i64 (sgd n*d),.int .i64 0])∨((∀ d:Nat,d≤600→¬ Fq.Cnd (dtn n f) (sgd n) (sgd n) d)∧v = .tuple #[.int .i64 0,.int .i64 7])
set_option maxHeartbeats 4000000 in
theorem Qcq {r:Int} {N c:Nat} {p:Option Addr} {vs:List Value} {f:Nat→Int} (rw1:RowAt U [] 1 p N vs) (el:El Vz U vs f) (hN:N≤9223372036854775807) :
  Ct Tryz.prog 10 [.agg #[.int .i64 r,.slice p N c]] G U M fun v _ D=>(chk r N f≠0→v = .tuple #[.int .i64 0,.int .i64 (chk r N f)])∧(∀ n:Nat,r=(n:Int)→chk r N f=0→(n % 2=1→v = .tuple #[.int .i64 0,.int .i64 16])∧(n % 2=0→DscP n f v))∧D=[]:=by
 refine Qg Tryz.func10 rfl rfl rfl rfl ?_
 repeat (first|refine Qb ?_|refine Qa fun _=>?_|refine w_al fun _=>?_)
 rename_i b1
 refine Qd rfl rfl rfl rfl rfl rfl (fun _=>jx (rw1.up uc (List.nil_sublist _)) (el.up KeptC.out uc) hN) ?_
 rintro v1 U1 D hU1 ⟨rfl,-,rfl⟩
 rw [List.nil_append]
 repeat (first|refine Qb ?_|refine Qa fun _=>?_|refine w_al fun _=>?_)
 refine JM rfl (fun h=>?_) (fun h=>?_)
 ·repeat (first|refine Qb ?_|refine Qa fun _=>?_|refine w_al fun _=>?_)
  exact Qe [] sym rfl (.cons (.tmp rfl) (.cons (.tmp rfl) .nil)) uc sb (.inl rfl) ⟨fun _=>rfl,fun _ _ h0=>absurd h0 h,rfl⟩
 obtain ⟨n,rfl,hn1,hn8,rfl,hb,he,hp⟩:=vy h
 rw [h]
 have hres:∀ v:Value,(n % 2=1→v = .tuple #[.int .i64 0,.int .i64 16])∧(n % 2=0→DscP n f v)→((0:Int)≠0→v = .tuple #[.int .i64 0,.int .i64 0])∧(∀ n':Nat,(n:Int)=(n':Int)→(0:Int)=0→(n' % 2=1→v = .tuple #[.int .i64 0,.int .i64 16])∧(n' % 2=0→DscP n' f v)):=fun v hv=>⟨fun h=>absurd rfl h,fun n' e _=>by
  obtain rfl:n=n':=Int.ofNat.inj e
  exact hv⟩
 repeat (first|refine Qb ?_|refine Qa fun _=>?_|refine w_al fun _=>?_)
 rw [show (n:Int).tmod 2=((n % 2:Nat):Int) from rfl]
 refine JM rfl (fun h1=>?_) (fun h1=>?_)
 ·have hr:=hres (tup [.int .i64 0,.int .i64 16]) ⟨fun _=>rfl,fun h2=>by omega⟩
  repeat (first|refine Qb ?_|refine Qa fun _=>?_|refine w_al fun _=>?_)
  exact Qe [] sym rfl (.cons (.tmp rfl) (.cons (.tmp rfl) .nil)) uc sb (.inl rfl) ⟨hr.1,hr.2,rfl⟩
 have hev:n % 2=0:=by omega
 replace hres:=fun v hv=>hres v ⟨fun h=>by omega,fun _=>hv⟩
 have hdp:=(VT he hp).2.2 hn1
 obtain ⟨K,hK⟩:∃ K,K=dtn n f:=⟨_,rfl⟩
 have hKd:Lr.det n (gz n f)=(K:Int):=by rw [hK]; unfold dtn; omega
 have hK0:1≤K:=by omega
 have sK:Sz (K:Int) 3:=by
  rw [← hKd]
  exact Nat.lt_of_le_of_lt (La.det_bd hn8 fun i j hi hj=>hb _ (Vy hi hj)) (by decide)
 obtain ⟨e,hee⟩:∃ e,e=sgd n:=⟨_,rfl⟩
 have heo:=vt n
 rw [← hee] at heo
 repeat (first|refine YU ?_|refine Qa fun _=>?_|refine w_al fun _=>?_)
 refine Ja ?_
 repeat (first|refine YU ?_|refine Qa fun _=>?_|refine w_al fun _=>?_)
 refine Qs (fun E U' M'=>True∧E=[(5,.int .i64 e),(1,.pointer (some ⟨b1,0,none⟩)),(2,.int .i64 0),(3,.int .i64 0)]∧ULe U1 U'∧M'=(b1,.var (.agg #[.int .i64 (n:Int),.slice p (n*n) c]),26)::M) ?_ ?_
 ·try refine Qc ?_
  rw [show (n:Int).tmod 4=((n % 4:Nat):Int) from rfl]
  refine JM rfl (fun h2=>?_) (fun h2=>?_)
  ·have e1:e = -1:=by rw [hee]; unfold sgd; rw [if_neg (by omega)]
   rw [e1]
   try refine Qc ?_
   exact Qr (E':=[(5,.int .i64 ((-1:Int))),(1,.pointer (some ⟨b1,0,none⟩)),(2,.int .i64 0),(3,.int .i64 0)]) ⟨rfl,rfl,rfl,rfl,trivial⟩ ⟨trivial,rfl,uc,rfl⟩
  ·have e1:e=1:=by rw [hee]; unfold sgd; rw [if_pos (by omega)]
   rw [e1]
   try refine Qc ?_
   exact Qr (E':=[(5,.int .i64 ((1:Int))),(1,.pointer (some ⟨b1,0,none⟩)),(2,.int .i64 0),(3,.int .i64 0)]) ⟨rfl,rfl,rfl,rfl,trivial⟩ ⟨trivial,rfl,uc,rfl⟩
 rintro E U4 M' ⟨-,rfl,hU4,rfl⟩
 repeat (first|refine Qb ?_|refine Qa fun _=>?_|refine w_al fun _=>?_)
 refine Qd rfl rfl rfl rfl rfl rfl (fun _=>QhG (rw1.up uc (List.nil_sublist _)) (el.up KeptC.out uc) rfl (fun k hk=>by have:=hb k hk; omega) hn8) ?_
 rintro v Uh35 D hU ⟨xh35,rfl,h35,rfl⟩
 repeat (first|refine Qb ?_|refine Qa fun _=>?_|refine w_al fun _=>?_)
 rename_i b6
 rw [List.nil_append]
 change xh35.nrm Uh35 [] (Lr.det n (gz n f)) at h35
 rw [hKd] at h35
 refine Qd rfl rfl rfl rfl rfl rfl (fun _=>Qen (n:=600) (by decide) (by decide)) ?_
 rintro v7 U7 D7 hU7 ⟨kp,P,_,rfl,⟨pp,cp,ps,rfl,hcp,rp,ep⟩,hPr,rfl⟩
 try rw [List.nil_append]
 have hPb:∀ k,k < kp→2≤P k∧P k≤600:=fun k hk=>⟨(hPr.prm k hk).1.two,by have:=(hPr.prm k hk).2; omega⟩
 have hPg:=Qgt hPr
 have hD0:Dst K P 0 1 1 K:=⟨by omega,by decide,hK0,Fq.sqf_one,fun q h1 h2=>by
  have:=h1.two
  have:=Nat.le_of_dvd (by decide) h2
  omega,fun i hi=>absurd hi (Nat.not_lt_zero i),by decide⟩
 have hLe:∀ {a b:Nat},a≤K→Sz (a:Int) 3:=fun {a b} h=>by
  unfold Sz at sK ⊢
  omega
 have hz5:(e:Int)=e*((1:Nat):Int):=by omega
 try refine Qc ?_
 try refine JB (M':=(b6,.var xh35.v,TJ)::(b1,.var (.agg #[.int .i64 (n:Int),.slice p (n*n) c]),26)::M) (ULe.refl _) sbk ?_
 refine Qo (fun z E U' M'=>∃ (k Fn w lf:Nat) (fr:Int) (x:IV),k≤kp∧fr=e*(Fn:Int)∧Dst K P k Fn w lf∧x.nrm U' [] (lf:Int)∧E=[(42,.int .i64 (k:Int)),(41,.int .i64 (kp:Int)),(40,.slice pp kp cp),(6,.pointer (some ⟨b6,0,none⟩)),(5,.int .i64 fr),(1,.pointer (some ⟨b1,0,none⟩)),(2,.int .i64 0),(3,.int .i64 0)]∧ULe U7 U'∧M'=(b6,.var x.v,TJ)::(b1,.var (.agg #[.int .i64 (n:Int),.slice p (n*n) c]),26)::M∧z=kp - k) (n0:=kp - 0) (E0:=[(42,.int .i64 ((0:Nat):Int)),(41,.int .i64 (kp:Int)),(40,.slice pp kp cp),(6,.pointer (some ⟨b6,0,none⟩)),(5,.int .i64 e),(1,.pointer (some ⟨b1,0,none⟩)),(2,.int .i64 0),(3,.int .i64 0)]) ⟨rfl,rfl,rfl,rfl,rfl,rfl,rfl,rfl,trivial⟩ ⟨0,1,1,K,e,xh35,Nat.zero_le kp,hz5,hD0,h35.up uc (List.Sublist.refl _),rfl,uc,rfl,rfl⟩ ?_
 rintro z E U8 M' ⟨k,Fn,w,lf,fr,x,hk,hfr,hD,hx,rfl,hU8,rfl,rfl⟩
 try refine Qc ?_
 refine Qh rfl (fun h3=>?_) (fun h3=>?_)
 ·have hkp:k < kp:=by omega
  obtain ⟨v1,hv1⟩:=rp.at hkp
  obtain rfl:v1 = .int .i64 (P k:Int):=ep _ _ hv1
  have hPk:=hPb k hkp
  have hPk2:=hPg k hkp
  have hi0:K=Fn*(w*w)*(if (false:Bool)=true then P k else 1)*lf:=by
   rw [if_neg (by decide),Nat.mul_one]; exact hD.eq
  have hlf0:=hD.l0
  have hw0:=hD.w0
  try refine Qc ?_
  refine sl_y (Qf sym rfl rfl rfl rfl rfl rfl ((rp.up uc sb).lt hv1) ((rp.up uc sb).get _ _ hv1).1) rfl rfl rfl rfl ?_; refine sl_y (Qk sym rfl rfl rfl rfl (rp.up uc sb) hv1 rfl) rfl rfl rfl rfl ?_
  try refine Qc ?_
  try refine JB (M':=(b6,.var x.v,TJ)::(b1,.var (.agg #[.int .i64 (n:Int),.slice p (n*n) c]),26)::M) (ULe.refl _) sbk ?_
  refine Qo (fun z E U' M'=>∃ (w2 lf2:Nat) (od:Bool) (x:IV),lf2 ∣ lf∧0 < lf2∧0 < w2∧K=Fn*(w2*w2)*(if od=true then P k else 1)*lf2∧x.nrm U' [] (lf2:Int)∧E=[(11,.bool od),(10,.int .i64 ((P k):Int)),(42,.int .i64 (k:Int)),(41,.int .i64 (kp:Int)),(40,.slice pp kp cp),(6,.pointer (some ⟨b6,0,none⟩)),(5,.int .i64 fr),(1,.pointer (some ⟨b1,0,none⟩)),(2,.int .i64 0),(3,.int .i64 0)]∧ULe U8 U'∧M'=(b6,.var x.v,TJ)::(b1,.var (.agg #[.int .i64 (n:Int),.slice p (n*n) c]),26)::M∧z=lf2) (n0:=lf) (E0:=[(11,.bool false),(10,.int .i64 ((P k):Int)),(42,.int .i64 (k:Int)),(41,.int .i64 (kp:Int)),(40,.slice pp kp cp),(6,.pointer (some ⟨b6,0,none⟩)),(5,.int .i64 fr),(1,.pointer (some ⟨b1,0,none⟩)),(2,.int .i64 0),(3,.int .i64 0)]) ⟨rfl,rfl,rfl,rfl,rfl,rfl,rfl,rfl,rfl,rfl,trivial⟩ ⟨w,lf,false,x,Nat.dvd_refl lf,hlf0,hw0,hi0,hx,rfl,uc,rfl,rfl⟩ ?_
  clear hx
  rintro z E U9 M' ⟨w2,lf2,od,x,hdv,h02,hw2,heq,hx,rfl,hU9,rfl,hzS⟩
  try refine Qc ?_
  have hlk:lf2≤K:=Nat.le_of_dvd hK0 ⟨_,by rw [heq,Nat.mul_comm]⟩
  have slf:=hLe (b:=0) hlk
  have spk:Sz (P k:Int) 1:=by unfold Sz; omega
  try refine Qc ?_
  refine QK [10,11,12] [0,1,2,3,4,5,6,7,8,9,10,11,12] sym (by kernel_rfl) ?_
  try refine Qc ?_
  refine Qd rfl rfl rfl rfl rfl rfl (fun _=>(qy (z:=(P k:Int)) (by omega) (by omega)).settle) ?_
  rintro v Uh49 D hU ⟨rfl,_,_,⟨xh49,rfl,h49,-⟩,-,-,hs⟩
  replace h49:=h49.sett hs
  clear hs
  repeat (first|refine Qb ?_|refine Qa fun _=>?_|refine w_al fun _=>?_)
  refine Qd rfl rfl rfl rfl rfl rfl (fun _=>Qfa (hx.rep.up uc (List.nil_sublist _)) (hx.le slf (by decide)) (h49.rep.up uc (List.nil_sublist _)) (h49.le spk (by decide)) (by omega)) ?_
  rintro v50 U50 D50 hU50 ⟨q,r,rfl,hq,hr,rfl⟩
  rw [List.nil_append]
  have eq1:(lf2:Int) / (P k:Int)=((lf2 / P k:Nat):Int):=(Int.natCast_ediv ..).symm
  have er1:(lf2:Int) % (P k:Int)=((lf2 % P k:Nat):Int):=(Int.natCast_emod ..).symm
  have hrm:lf2 % P k < P k:=Nat.mod_lt _ (by omega)
  have srm:Sz ((lf2 % P k:Nat):Int) 1:=by unfold Sz; omega
  rw [eq1] at hq
  rw [er1] at hr
  repeat (first|refine Qb ?_|refine Qa fun _=>?_|refine w_al fun _=>?_)
  rename_i b12 b13
  refine Qd rfl rfl rfl rfl rfl rfl (fun _=>YW (hr.rep.up uc (List.nil_sublist _)) (hr.le srm (by decide))) ?_
  rintro v U' D hU ⟨rfl,rfl,rfl⟩
  repeat (first|refine Qb ?_|refine Qa fun _=>?_|refine w_al fun _=>?_)
  refine JM rfl (fun h4=>?_) (fun h4=>?_)
  ·have hnd:¬ P k ∣ lf2:=fun h5=>h4 (by rw [Nat.mod_eq_zero_of_dvd h5]; rfl)
   try refine Qc ?_
   cases od
   ·rw [if_neg (by decide)] at heq
    repeat (first|refine Qb ?_|refine Qa fun _=>?_|refine w_al fun _=>?_)
    refine YR (M':=(b6,.var x.v,TJ)::(b1,.var (.agg #[.int .i64 (n:Int),.slice p (n*n) c]),26)::M) (ULe.refl _) sbk ?_
    exact Qj (E':=[(42,.int .i64 ((k:Int)+1)),(41,.int .i64 (kp:Int)),(40,.slice pp kp cp),(6,.pointer (some ⟨b6,0,none⟩)),(5,.int .i64 fr),(1,.pointer (some ⟨b1,0,none⟩)),(2,.int .i64 0),(3,.int .i64 0)]) (m:=kp - (k+1)) ⟨rfl,rfl,rfl,rfl,rfl,rfl,rfl,rfl,trivial⟩ (by omega) ⟨k+1,Fn,w2,lf2,fr,x,by omega,hfr,hD.next hdv h02 hw2 heq hnd,hx.up uc (List.Sublist.refl _),rfl,uc,rfl,rfl⟩
   ·rw [if_pos rfl] at heq
    obtain ⟨o1,o2,o3,o4⟩:=hD.odd hPr hkp hdv heq hnd
    have hFp:Fn*P k≤600*600:=Nat.mul_le_mul hD.le hPk.2
    have hfp:fr*(P k:Int)=e*((Fn*P k:Nat):Int):=by rw [hfr,Int.natCast_mul,Int.mul_assoc]
    have hbig:600 < Fn*P k→DscP n f (tup [.int .i64 0,.int .i64 7]):=fun h6 => .inr ⟨fun d hd=>by
     rw [← hK]
     exact Fq.disc_none (c:=600) (vt n) o2 hw2 o1 (fun q h7 h8 h9=>by
      obtain ⟨i,h10,h11⟩:=o3 q h7 h8
      exact o4 i h10 (by rw [h11]; exact h9)) h6 hd,rfl⟩
    have hfl : -360000≤fr*(P k:Int)∧fr*(P k:Int)≤360000:=by
     rw [hfp]
     rcases heo with rfl | rfl<;>omega
    repeat (first|refine Qb ?_|refine Qa fun _=>?_|refine w_al fun _=>?_)
    rw [hfp]
    refine Qt rfl rfl (fun h5=>?_) (fun h5=>?_)
    ·have hr:=hres _ (hbig (by rcases heo with rfl | rfl<;>omega))
     repeat (first|refine Qb ?_|refine Qa fun _=>?_|refine w_al fun _=>?_)
     exact Qe [] sym rfl (.cons (.tmp rfl) (.cons (.tmp rfl) .nil)) uc sb (.inl rfl) ⟨hr.1,hr.2,rfl⟩
    ·repeat (first|refine Qb ?_|refine Qa fun _=>?_|refine w_al fun _=>?_)
     refine Qh rfl (fun h6=>?_) (fun h6=>?_)
     ·have hr:=hres _ (hbig (by rcases heo with rfl | rfl<;>omega))
      repeat (first|refine Qb ?_|refine Qa fun _=>?_|refine w_al fun _=>?_)
      exact Qe [] sym rfl (.cons (.tmp rfl) (.cons (.tmp rfl) .nil)) uc sb (.inl rfl) ⟨hr.1,hr.2,rfl⟩
     ·repeat (first|refine Qb ?_|refine Qa fun _=>?_|refine w_al fun _=>?_)
      refine YR (M':=(b6,.var x.v,TJ)::(b1,.var (.agg #[.int .i64 (n:Int),.slice p (n*n) c]),26)::M) (ULe.refl _) sbk ?_
      exact Qj (E':=[(42,.int .i64 ((k:Int)+1)),(41,.int .i64 (kp:Int)),(40,.slice pp kp cp),(6,.pointer (some ⟨b6,0,none⟩)),(5,.int .i64 (e*((Fn*P k:Nat):Int))),(1,.pointer (some ⟨b1,0,none⟩)),(2,.int .i64 0),(3,.int .i64 0)]) (m:=kp - (k+1)) ⟨rfl,rfl,rfl,rfl,rfl,rfl,rfl,rfl,trivial⟩ (by omega) ⟨k+1,Fn*P k,w2,lf2,e*((Fn*P k:Nat):Int),x,by omega,rfl,⟨o2,hw2,h02,o1,o3,o4,by rcases heo with rfl | rfl<;>omega⟩,hx.up uc (List.Sublist.refl _),rfl,uc,rfl,rfl⟩
  ·have hmz:lf2 % P k=0:=by
    rcases Nat.eq_zero_or_pos (lf2 % P k) with h5 | h5
    ·exact h5
    ·rw [Int.sign_eq_one_of_pos (by omega)] at h4
     exact absurd h4 (by decide)
   have hdm:=Nat.div_add_mod lf2 (P k)
   rw [hmz,Nat.add_zero] at hdm
   have hq0:0 < lf2 / P k:=by
    rcases Nat.eq_zero_or_pos (lf2 / P k) with h5 | h5
    ·rw [h5,Nat.mul_zero] at hdm; omega
    ·exact h5
   have hql:lf2 / P k < lf2:=Nat.div_lt_self h02 (by omega)
   have hqd:lf2 / P k ∣ lf:=Nat.dvd_trans ⟨P k,by rw [Nat.mul_comm]; exact hdm.symm⟩ hdv
   repeat (first|refine Qb ?_|refine Qa fun _=>?_|refine w_al fun _=>?_)
   refine YR (M':=(b6,.var q.v,TJ)::(b1,.var (.agg #[.int .i64 (n:Int),.slice p (n*n) c]),26)::M) (ULe.refl _) sbk ?_
   cases od
   ·exact Qj (E':=[(11,.bool true),(10,.int .i64 ((P k):Int)),(42,.int .i64 (k:Int)),(41,.int .i64 (kp:Int)),(40,.slice pp kp cp),(6,.pointer (some ⟨b6,0,none⟩)),(5,.int .i64 fr),(1,.pointer (some ⟨b1,0,none⟩)),(2,.int .i64 0),(3,.int .i64 0)]) (m:=(lf2 / P k)) ⟨rfl,rfl,rfl,rfl,rfl,rfl,rfl,rfl,rfl,rfl,trivial⟩ (by omega) ⟨w2,lf2 / P k,true,q,hqd,hq0,hw2,by rw [if_pos rfl,heq,if_neg (by decide),Nat.mul_one,Nat.mul_assoc (Fn*(w2*w2)),hdm],hq,rfl,uc,rfl,rfl⟩
   ·have e7:K=Fn*(w2*P k*(w2*P k))*(if (false:Bool)=true then P k else 1)*(lf2 / P k):=by
     rw [if_pos rfl] at heq
     rw [if_neg (by decide),heq]
     generalize lf2 / P k=qn at hdm ⊢
     rw [← hdm]
     simp only [Nat.mul_one,Nat.mul_left_comm,Nat.mul_comm]
    exact Qj (E':=[(11,.bool false),(10,.int .i64 ((P k):Int)),(42,.int .i64 (k:Int)),(41,.int .i64 (kp:Int)),(40,.slice pp kp cp),(6,.pointer (some ⟨b6,0,none⟩)),(5,.int .i64 fr),(1,.pointer (some ⟨b1,0,none⟩)),(2,.int .i64 0),(3,.int .i64 0)]) (m:=(lf2 / P k)) ⟨rfl,rfl,rfl,rfl,rfl,rfl,rfl,rfl,rfl,rfl,trivial⟩ (by omega) ⟨w2*P k,lf2 / P k,false,q,hqd,hq0,Nat.mul_pos hw2 (by omega),e7,hq,rfl,uc,rfl,rfl⟩
 ·obtain rfl:kp=k:=by omega
  have hlk:lf≤K:=Nat.le_of_dvd hK0 ⟨_,by rw [hD.eq,Nat.mul_comm]⟩
  have slf:=hLe (b:=0) hlk
  have hfin:∀ a:Nat,a≤600→(Fq.Cnd K e e a↔(∃ v,lf=v*v)∧e=e∧a=if (e*(Fn:Int)) % 4=1 then Fn else 4*Fn):=fun a ha=>Fq.disc_some (c:=600) heo hD.eq hD.w0 hD.sq (fun q h6 h7=>by
   have:=Nat.le_of_dvd hD.sq.1 h7
   have:=hD.le
   omega) (fun q h6 h7 h8=>by
   obtain ⟨i,h9,h10⟩:=hPr.all q h6 (by omega)
   exact hD.no i h9 (by rw [h10]; exact h8)) hD.l0 ha
  repeat (first|refine Qb ?_|refine Qa fun _=>?_|refine w_al fun _=>?_)
  refine Qd rfl rfl rfl rfl rfl rfl (fun _=>QfE (hx.rep.up uc (List.nil_sublist _)) (hx.le slf (by decide)) (by omega)) ?_
  rintro v73 U73 D73 hU73 ⟨rt,bs,rfl,hrt,hbs,rfl⟩
  try rw [List.nil_append]
  have hf6:=hD.le
  have hf1:=hD.sq.1
  cases bs
  ·have hno:∀ d:Nat,d≤600→¬ Fq.Cnd K e e d:=fun a ha hC=>by
    obtain ⟨⟨v,hv⟩,-⟩:=(hfin a ha).1 hC
    have:=hbs.2 (by
     rw [Int.natAbs_natCast,hv,← Bx.isq_at (A:=v*v) (R:=v) (Nat.le_refl _) (by rw [Nat.add_mul,Nat.mul_add]; omega)])
    cases this
   have hr:=hres (tup [.int .i64 0,.int .i64 7]) (.inr ⟨fun a ha=>by rw [← hK,← hee]; exact hno a ha,rfl⟩)
   repeat (first|refine Qb ?_|refine Qa fun _=>?_|refine w_al fun _=>?_)
   exact Qe [] sym rfl (.cons (.tmp rfl) (.cons (.tmp rfl) .nil)) uc sb (.inl rfl) ⟨hr.1,hr.2,rfl⟩
  have hsq:∃ v,lf=v*v:=⟨_,(hbs.1 rfl).symm⟩
  replace hfin:∀ a:Nat,a≤600→(Fq.Cnd K e e a↔a=if (e*(Fn:Int)) % 4=1 then Fn else 4*Fn):=fun a ha=>(hfin a ha).trans ⟨fun h=>h.2.2,fun h=>⟨hsq,rfl,h⟩⟩
  obtain ⟨dd,hdd⟩:∃ dd,dd=if (e*(Fn:Int)) % 4=1 then Fn else 4*Fn:=⟨_,rfl⟩
  rw [← hdd] at hfin
  have hdb:1≤dd∧dd≤2400:=by rw [hdd]; split<;>omega
  have hmod:(fr.tmod 4+4).tmod 4=fr % 4 ∧ -4 < fr.tmod 4∧fr.tmod 4 < 4:=by
   have e1:fr.tmod 4=if 0≤fr then fr % 4 else -((-fr) % 4):=by
    split
    ·rename_i h; exact Int.tmod_eq_emod_of_nonneg h
    ·rename_i h
     have:=Int.tmod_eq_emod_of_nonneg (a := -fr) (b:=4) (by omega)
     rw [Int.neg_tmod] at this
     omega
   have e2 : -4 < fr.tmod 4∧fr.tmod 4 < 4:=by rw [e1]; omega
   refine ⟨?_,e2⟩
   rw [Int.tmod_eq_emod_of_nonneg (by omega),e1]
   omega
  have hfb : -600≤fr∧fr≤600:=by rcases heo with rfl | rfl<;>omega
  repeat (first|refine YU ?_|refine Qa fun _=>?_|refine w_al fun _=>?_)
  refine Ja ?_
  repeat (first|refine YU ?_|refine Qa fun _=>?_|refine w_al fun _=>?_)
  rename_i b15
  refine Qs (fun E U' M'=>∃ (y:Int),y=e*(dd:Int)∧E=[(5,.int .i64 y),(1,.pointer (some ⟨b1,0,none⟩)),(2,.int .i64 0),(3,.int .i64 0)]∧ULe U73 U'∧M'=(b15,.var rt.v,TJ)::(b6,.var x.v,TJ)::(b1,.var (.agg #[.int .i64 (n:Int),.slice p (n*n) c]),26)::M) ?_ ?_
  ·try refine Qc ?_
   refine JM rfl (fun h5=>?_) (fun h5=>?_)
   ·have e5:e*(dd:Int)=fr*4:=by
     rw [hmod.1,hfr] at h5
     rw [hdd,if_neg h5,hfr,Int.natCast_mul,Int.mul_assoc]
     exact congrArg _ (Int.mul_comm _ _)
    try refine Qc ?_
    exact Qr (E':=[(5,.int .i64 ((fr*4))),(1,.pointer (some ⟨b1,0,none⟩)),(2,.int .i64 0),(3,.int .i64 0)]) ⟨rfl,rfl,rfl,rfl,trivial⟩ ⟨(fr*4),e5.symm,rfl,uc,rfl⟩
   ·have e5:e*(dd:Int)=fr:=by
     rw [hmod.1,hfr] at h5
     rw [hdd,if_pos h5,hfr]
    try refine Qc ?_
    exact Qr (E':=[(5,.int .i64 fr),(1,.pointer (some ⟨b1,0,none⟩)),(2,.int .i64 0),(3,.int .i64 0)]) ⟨rfl,rfl,rfl,rfl,trivial⟩ ⟨fr,e5.symm,rfl,uc,rfl⟩
  rintro E U74 M' ⟨y,hy,rfl,hU74,rfl⟩
  have hyb : -2400≤y∧y≤2400:=by rw [hy]; rcases heo with rfl | rfl<;>omega
  have hbig:600 < dd→DscP n f (tup [.int .i64 0,.int .i64 7]):=fun h6 => .inr ⟨fun a ha=>by
   rw [← hK,← hee]
   exact fun hC=>by have:=(hfin a ha).1 hC; omega,rfl⟩
  try refine Qc ?_
  refine Qt rfl rfl (fun h5=>?_) (fun h5=>?_)
  ·have hr:=hres _ (hbig (by rcases heo with rfl | rfl<;>omega))
   repeat (first|refine Qb ?_|refine Qa fun _=>?_|refine w_al fun _=>?_)
   exact Qe [] sym rfl (.cons (.tmp rfl) (.cons (.tmp rfl) .nil)) uc sb (.inl rfl) ⟨hr.1,hr.2,rfl⟩
  ·try refine Qc ?_
   refine Qh rfl (fun h6=>?_) (fun h6=>?_)
   ·have hr:=hres _ (hbig (by rcases heo with rfl | rfl<;>omega))
    repeat (first|refine Qb ?_|refine Qa fun _=>?_|refine w_al fun _=>?_)
    exact Qe [] sym rfl (.cons (.tmp rfl) (.cons (.tmp rfl) .nil)) uc sb (.inl rfl) ⟨hr.1,hr.2,rfl⟩
   ·have hr:=hres (tup [.int .i64 y,.int .i64 0]) (.inl ⟨dd,hdb.1,by rcases heo with rfl | rfl<;>omega,fun a ha=>by rw [← hK,← hee]; exact hfin a ha,by rw [← hee,← hy]; rfl⟩)
    repeat (first|refine Qb ?_|refine Qa fun _=>?_|refine w_al fun _=>?_)
    exact Qe [] sym rfl (.cons (.tmp rfl) (.cons (.tmp rfl) .nil)) uc sb (.inl rfl) ⟨hr.1,hr.2,rfl⟩
end Go.Proofs.YtnjpkncacddplaaGreat

/- Walks of layer 36's reference: even, Level. -/
namespace Go.Proofs.YtnjpkncacddplaaGreat
open Go.Hp
variable {G:World} {U U':UH} {M:MH}
def dle (A:Nat→Nat→Rat) (i k:Nat):Rat:=if i=k then A i k*((1:Rat) / 2) else A i k
end Go.Proofs.YtnjpkncacddplaaGreat

/- Walks of layer 36's reference: Level. -/
namespace Go.Proofs.YtnjpkncacddplaaGreat
open Go.Hp
variable {G:World} {U U':UH} {M:MH}
end Go.Proofs.YtnjpkncacddplaaGreat

/- Change of basis: inverses, levels. No condition. -/
namespace Go.La
def Eqm (n:Nat) (A B:Mx Rat):Prop:=∀ i j,i < n→j < n→A i j=B i j
theorem Eqm.refl {n:Nat} (A:Mx Rat):Eqm n A A:=fun _ _ _ _=>rfl
theorem Eqm.trans {n:Nat} {A B C:Mx Rat} (h:Eqm n A B) (h':Eqm n B C):Eqm n A C:=fun i j hi hj=>(h i j hi hj).trans (h' i j hi hj)
theorem Eqm.symm {n:Nat} {A B:Mx Rat} (h:Eqm n A B):Eqm n B A:=fun i j hi hj=>(h i j hi hj).symm
theorem Eqm.mm {n:Nat} {A A' B B':Mx Rat} (h:Eqm n A A') (h':Eqm n B B'):Eqm n (mm n A B) (mm n A' B'):=fun i j hi hj=>sm_congr fun k hk=>by rw [h i k hi hk,h' k j hk hj]
theorem Eqm.tr {n:Nat} {A B:Mx Rat} (h:Eqm n A B):Eqm n (tr A) (tr B):=fun i j hi hj=>h j i hj hi
def dge (A:Mx Rat) (i k:Nat):Rat:=if i=k then A i k*((1:Rat) / 2) else A i k
end Go.La

/- A change of basis of a form: plain. -/
namespace Go.Proofs.YtnjpkncacddplaaGreat
open Go.Hp
open Go.La (Eqm)
variable {G:World} {U U':UH} {M:MH}
end Go.Proofs.YtnjpkncacddplaaGreat

/- Laws of layer 36: Expansions. -/
namespace Go.Proofs.YtnjpkncacddplaaGreat
open Go.Hp
variable {G:World} {U U':UH} {M:MH}
def ExpA (r prec:Int) (N:Nat) (f:Nat→Int) (U:UH) (v:Value):Prop :=
 (chk r N f≠0→v = .tuple #[.agg #[.int .i64 0,.slice none 0 0],.int .i64 (chk r N f)]) ∧
  (∀ n:Nat,r=(n:Int)→chk r N f=0→((prec < 0∨1000 < prec)→v = .tuple #[.agg #[.int .i64 0,.slice none 0 0],.int .i64 2])∧(∀ P:Nat,prec=(P:Int)→P≤1000→WgtO n f P U v))
end Go.Proofs.YtnjpkncacddplaaGreat

/- A change of basis of a form: the vectors of a number. -/
namespace Go.Proofs.YtnjpkncacddplaaGreat
open Go.Hp
open Go.La (Eqm)
variable {G:World} {U U':UH} {M:MH}
def act (n:Nat) (W:Nat→Nat→Int) (y:Nat→Int):Nat→Int:=fun a=>Lr.sm n fun i=>y i*W i a
theorem Skp.congr {g g':Nat→Rat} {N s:Nat} (h:Skp g N s) (e:∀ q,q < N→g q=g' q):Skp g' N s :=
 ⟨h.1,fun a ha=>by rw [← e a (by have:=h.1; omega)]; exact h.2.1 a ha,fun hs=>by rw [← e s hs]; exact h.2.2 hs⟩
end Go.Proofs.YtnjpkncacddplaaGreat

/- Laws of layer 36: Operations. -/
namespace Go.Proofs.YtnjpkncacddplaaGreat
open Go.Hp
open Classical
variable {G:World} {U U':UH} {M:MH}
def grn (e:Int) (n:Nat):Nat:=if e=0 then n else 0
end Go.Proofs.YtnjpkncacddplaaGreat

/- Laws of layer 36: Forms. -/
namespace Go.Proofs.YtnjpkncacddplaaGreat
open Go.Hp
variable {G:World} {U U':UH} {M:MH}
end Go.Proofs.YtnjpkncacddplaaGreat
