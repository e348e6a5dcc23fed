/- Texts of this seat's own, merged: each begins with its own remark. -/
import Derived.Test.YthnnlgjlhnmhnaaGreatM58
import Derived.Test.YthnnlgjlhnmhnaaGreatM53
/- Walks of layer 36: the error of a polynomial. -/
namespace Go.Proofs.YthnnlgjlhnmhnaaGreat
open Go.Hp
variable {G:World} {U U':UH} {M:MH}
noncomputable def mer (n m:Nat) (e:Nat→Int):Int:=if m≠n then 4 else if ∀ k,k < n→0≤e k∧e k≤6 then 0 else 2
noncomputable def perS (n:Nat) (ne:Nat→Nat) (e:Nat→Nat→Int):Nat→Nat→Int
 | _,0=>0
 | i,r+1=>if mer n (ne i) (e i)≠0 then mer n (ne i) (e i) else perS n ne e (i+1) r
noncomputable def perr (n np:Nat) (ne:Nat→Nat) (e:Nat→Nat→Int):Int:=if 60 < np then 7 else perS n ne e 0 np
theorem Qap {n:Nat} {ne:Nat→Nat} {e:Nat→Nat→Int}:∀ {r i:Nat},perS n ne e i r=0→∀ j,i≤j→j < i+r→ne j=n∧∀ k,k < n→0≤e j k∧e j k≤6
 | 0,i,_,j,h1,h2=>by omega
 | r+1,i,h,j,h1,h2=>by
  unfold perS at h
  by_cases hm:mer n (ne i) (e i)≠0
  ·rw [if_pos hm] at h; exact absurd h hm
  ·rw [if_neg hm] at h
   rcases Nat.lt_or_eq_of_le h1 with h3 | h3
   ·exact Qap h j (by omega) (by omega)
   ·subst h3
    have hm:=Decidable.not_not.1 hm
    unfold mer at hm
    by_cases e1:ne i≠n
    ·rw [if_pos e1] at hm; exact absurd hm (by decide)
    ·rw [if_neg e1] at hm
     by_cases e2:∀ k,k < n→0≤e i k∧e i k≤6
     ·exact ⟨Decidable.not_not.1 e1,e2⟩
     ·rw [if_neg e2] at hm; exact absurd hm (by decide)
theorem VH {n np:Nat} {ne:Nat→Nat} {e:Nat→Nat→Int} (h:perr n np ne e=0):Fit np n ne e:=by
 unfold perr at h
 by_cases h1:60 < np
 ·rw [if_pos h1] at h; exact absurd h (by decide)
 ·rw [if_neg h1] at h
  exact ⟨by omega,fun i hi=>Qap h i (Nat.zero_le i) (by omega)⟩
theorem Qaz {n r i:Nat} {ne:Nat→Nat} {e:Nat→Nat→Int} (h:mer n (ne i) (e i)=0):perS n ne e i (r+1)=perS n ne e (i+1) r:=by
 show (if mer n (ne i) (e i)≠0 then _ else _)=_
 rw [if_neg (by rw [h]; decide)]
theorem qK {n r i:Nat} {ne:Nat→Nat} {e:Nat→Nat→Int} (h:mer n (ne i) (e i)≠0):perS n ne e i (r+1)=mer n (ne i) (e i):=by
 show (if mer n (ne i) (e i)≠0 then _ else _)=_
 rw [if_pos h]
set_option maxHeartbeats 1000000 in
theorem qV {np n b N c:Nat} {p:Option Addr} {vp:Value} {ne:Nat→Nat} {e:Nat→Nat→Int} {q:Nat→Rat} (hp:Pol b U M vp np ne e q) (hnp:np≤9223372036854775807) (hne:∀ i,i < np→ne i≤9223372036854775807) (hn:n≤8) :
  Ct Tryz.prog 19 [.agg #[.int .i64 (n:Int),.slice p N c],vp] G U M fun v U' D=>v = .int .i64 (perr n np ne e)∧U=U'∧D=[]:=by
 obtain ⟨pp,cp,ms,rfl,hcp,rm,em⟩:=hp
 unfold perr
 refine Qh Tryz.func19 rfl rfl rfl rfl ?_
 repeat (first|refine Qc ?_|refine Qa fun _=>?_|refine w_al fun _=>?_)
 rename_i b2
 refine Qi rfl (fun h=>?_) (fun h=>?_)
 ·rw [if_pos (by omega)]
  repeat (first|refine Qc ?_|refine Qa fun _=>?_|refine w_al fun _=>?_)
  exact Qe [] sym rfl (.cons (.tmp rfl) .nil) uc sb (.inl rfl) ⟨rfl,rfl,rfl⟩
 rw [if_neg (by omega)]
 obtain ⟨E0,hE0⟩:∃ E0,E0=perS n ne e 0 np:=⟨_,rfl⟩
 rw [← hE0]
 repeat (first|refine Qc ?_|refine Qa fun _=>?_|refine w_al fun _=>?_)
 try refine Qu (M':=(b2,.var (.agg #[.int .i64 (n:Int),.slice p N c]),24)::M) (ULe.refl _) sbk ?_
 refine Ql (fun z E U' M'=>∃ (i:Nat),i≤np∧perS n ne e i (np - i)=E0∧U=U'∧E=[(14,.int .i64 (i:Int)),(13,.int .i64 (np:Int)),(12,.slice pp np cp),(2,.pointer (some ⟨b2,0,none⟩))]∧ULe U U'∧M'=(b2,.var (.agg #[.int .i64 (n:Int),.slice p N c]),24)::M∧z=np - i) (n0:=np - 0) (E0:=[(14,.int .i64 ((0:Nat):Int)),(13,.int .i64 (np:Int)),(12,.slice pp np cp),(2,.pointer (some ⟨b2,0,none⟩))]) ⟨rfl,rfl,rfl,rfl,trivial⟩ ⟨0,by omega,by rw [Nat.sub_zero]; exact hE0.symm,rfl,rfl,uc,rfl,rfl⟩ ?_
 rintro z E U1 M' ⟨i,hi,hper,rfl,rfl,hU1,rfl,rfl⟩
 try refine Qb ?_
 refine Qi rfl (fun h2=>?_) (fun h2=>?_)
 ·have hin:i < np:=by omega
  obtain ⟨v1,hv1⟩:=rm.at hin
  obtain ⟨pe,ce,xs,x,rfl,hce,rx,ex,-⟩:=em _ _ hv1
  have hni:=hne i hin
  rw [show np - i=np - (i+1)+1 by omega] at hper
  repeat (first|refine Qc ?_|refine Qa fun _=>?_|refine w_al fun _=>?_)
  refine sl_y (Qf sym rfl rfl rfl rfl rfl rfl ((rm.up uc sb).lt hv1) ((rm.up uc sb).get _ _ hv1).1) rfl rfl rfl rfl ?_; refine sl_y (Qp sym rfl rfl rfl rfl rfl (rm.up uc sb) hv1) rfl rfl rfl rfl ?_
  repeat (first|refine Qc ?_|refine Qa fun _=>?_|refine w_al fun _=>?_)
  rename_i b6
  refine QK rfl (fun h3=>?_) (fun h3=>?_)
  ·have hm:mer n (ne i) (e i)=4:=by unfold mer; rw [if_pos (by omega)]
   rw [qK (by rw [hm]; decide),hm] at hper
   rw [← hper]
   repeat (first|refine Qc ?_|refine Qa fun _=>?_|refine w_al fun _=>?_)
   exact Qe [] sym rfl (.cons (.tmp rfl) .nil) uc sb (.inl rfl) ⟨rfl,rfl,rfl⟩
  have h3:ne i=n:=by omega
  rw [h3] at rx hce
  repeat (first|refine Qc ?_|refine Qa fun _=>?_|refine w_al fun _=>?_)
  rw [h3]
  try refine Qu (M':=(b6,.var (.agg #[.slice pe n ce,.bool x.num.neg,.slice x.num.p x.num.n x.num.c,.bool x.den.neg,.slice x.den.p x.den.n x.den.c]),50)::(b2,.var (.agg #[.int .i64 (n:Int),.slice p N c]),24)::M) (ULe.refl _) sbk ?_
  refine Ql (fun z E U' M'=>∃ (k:Nat),k≤n∧(∀ t,t < k→0≤e i t∧e i t≤6)∧U=U'∧E=[(27,.int .i64 (k:Int)),(26,.int .i64 (n:Int)),(25,.slice pe n ce),(14,.int .i64 (i:Int)),(13,.int .i64 (np:Int)),(12,.slice pp np cp),(2,.pointer (some ⟨b2,0,none⟩))]∧ULe U U'∧M'=(b6,.var (.agg #[.slice pe n ce,.bool x.num.neg,.slice x.num.p x.num.n x.num.c,.bool x.den.neg,.slice x.den.p x.den.n x.den.c]),50)::(b2,.var (.agg #[.int .i64 (n:Int),.slice p N c]),24)::M∧z=n - k) (n0:=n - 0) (E0:=[(27,.int .i64 ((0:Nat):Int)),(26,.int .i64 (n:Int)),(25,.slice pe n ce),(14,.int .i64 (i:Int)),(13,.int .i64 (np:Int)),(12,.slice pp np cp),(2,.pointer (some ⟨b2,0,none⟩))]) ⟨rfl,rfl,rfl,rfl,rfl,rfl,rfl,trivial⟩ ⟨0,by omega,(fun t h=>absurd h (Nat.not_lt_zero t)),rfl,rfl,uc,rfl,rfl⟩ ?_
  rintro z E U1 M' ⟨k,hk,hall,rfl,rfl,hU1,rfl,rfl⟩
  try refine Qb ?_
  refine Qi rfl (fun h4=>?_) (fun h4=>?_)
  ·have hkn:k < n:=by omega
   obtain ⟨w1,hw1⟩:=rx.at hkn
   obtain ⟨hv,hz⟩:=ex _ _ hw1
   subst hv
   have hbad:¬ (0≤e i k∧e i k≤6)→E0=2:=fun hb=>by
    have hm:mer n (ne i) (e i)=2:=by
     unfold mer
     rw [if_neg (by omega),if_neg fun h=>hb (h k hkn)]
    rw [qK (by rw [hm]; decide),hm] at hper
    exact hper.symm
   repeat (first|refine Qc ?_|refine Qa fun _=>?_|refine w_al fun _=>?_)
   refine sl_y (Qf sym rfl rfl rfl rfl rfl rfl ((rx.up uc sb).lt hw1) ((rx.up uc sb).get _ _ hw1).1) rfl rfl rfl rfl ?_; refine sl_y (Qk sym rfl rfl rfl rfl (rx.up uc sb) hw1 rfl) rfl rfl rfl rfl ?_
   repeat (first|refine Qc ?_|refine Qa fun _=>?_|refine w_al fun _=>?_)
   refine Qw rfl rfl (fun h5=>?_) (fun h5=>?_)
   ·rw [hbad (by omega)]
    repeat (first|refine Qc ?_|refine Qa fun _=>?_|refine w_al fun _=>?_)
    exact Qe [] sym rfl (.cons (.tmp rfl) .nil) uc sb (.inl rfl) ⟨rfl,rfl,rfl⟩
   repeat (first|refine Qc ?_|refine Qa fun _=>?_|refine w_al fun _=>?_)
   refine Qi rfl (fun h6=>?_) (fun h6=>?_)
   ·rw [hbad (by omega)]
    repeat (first|refine Qc ?_|refine Qa fun _=>?_|refine w_al fun _=>?_)
    exact Qe [] sym rfl (.cons (.tmp rfl) .nil) uc sb (.inl rfl) ⟨rfl,rfl,rfl⟩
   repeat (first|refine Qc ?_|refine Qa fun _=>?_|refine w_al fun _=>?_)
   exact Qg (E':=[(27,.int .i64 ((k:Int)+1)),(26,.int .i64 (n:Int)),(25,.slice pe n ce),(14,.int .i64 (i:Int)),(13,.int .i64 (np:Int)),(12,.slice pp np cp),(2,.pointer (some ⟨b2,0,none⟩))]) (m:=n - (k+1)) ⟨rfl,rfl,rfl,rfl,rfl,rfl,rfl,trivial⟩ (by omega) ⟨k+1,by omega,(fun t ht=>by
    rcases Nat.lt_or_eq_of_le (Nat.le_of_lt_succ ht) with h7 | h7
    ·exact hall t h7
    ·rw [h7]; omega),rfl,rfl,uc,rfl,rfl⟩
  ·obtain rfl:n=k:=by omega
   have hm:mer n (ne i) (e i)=0:=by unfold mer; rw [if_neg (by omega),if_pos hall]
   rw [Qaz hm] at hper
   repeat (first|refine Qc ?_|refine Qa fun _=>?_|refine w_al fun _=>?_)
   refine QU (M':=(b2,.var (.agg #[.int .i64 (n:Int),.slice p N c]),24)::M) (ULe.refl _) sbk ?_
   exact Qg (E':=[(14,.int .i64 ((i:Int)+1)),(13,.int .i64 (np:Int)),(12,.slice pp np cp),(2,.pointer (some ⟨b2,0,none⟩))]) (m:=np - (i+1)) ⟨rfl,rfl,rfl,rfl,trivial⟩ (by omega) ⟨i+1,by omega,hper,rfl,rfl,uc,rfl,rfl⟩
 ·obtain rfl:np=i:=by omega
  rw [Nat.sub_self] at hper
  have hper:(0:Int)=E0:=hper
  rw [← hper]
  repeat (first|refine Qc ?_|refine Qa fun _=>?_|refine w_al fun _=>?_)
  exact Qe [] sym rfl (.cons (.tmp rfl) .nil) uc sb (.inl rfl) ⟨rfl,rfl,rfl⟩
set_option maxHeartbeats 1000000 in
theorem vB {np n b N c:Nat} {p:Option Addr} {vp:Value} {ne:Nat→Nat} {e:Nat→Nat→Int} {q:Nat→Rat} (hp:Pol b U M vp np ne e q) (hnp:np≤9223372036854775807) (hne:∀ i,i < np→ne i≤9223372036854775807) (hn:n≤8) :
  Ct Tryz.prog 25 [.agg #[.int .i64 (n:Int),.slice p N c],vp] G U M fun v U' D=>v = .int .i64 (perr n np ne e)∧U=U'∧D=[]:=by
 obtain ⟨pp,cp,ms,rfl,hcp,rm,em⟩:=hp
 unfold perr
 refine Qh Tryz.func25 rfl rfl rfl rfl ?_
 repeat (first|refine Qc ?_|refine Qa fun _=>?_|refine w_al fun _=>?_)
 rename_i b2
 refine Qi rfl (fun h=>?_) (fun h=>?_)
 ·rw [if_pos (by omega)]
  repeat (first|refine Qc ?_|refine Qa fun _=>?_|refine w_al fun _=>?_)
  exact Qe [] sym rfl (.cons (.tmp rfl) .nil) uc sb (.inl rfl) ⟨rfl,rfl,rfl⟩
 rw [if_neg (by omega)]
 obtain ⟨E0,hE0⟩:∃ E0,E0=perS n ne e 0 np:=⟨_,rfl⟩
 rw [← hE0]
 try refine Qb ?_
 try refine Qu (M':=(b2,.var (.agg #[.int .i64 (n:Int),.slice p N c]),24)::M) (ULe.refl _) sbk ?_
 refine Ql (fun z E U' M'=>∃ (i:Nat),i≤np∧perS n ne e i (np - i)=E0∧U=U'∧E=[(5,.int .i64 (i:Int)),(2,.pointer (some ⟨b2,0,none⟩)),(1,.slice pp np cp)]∧ULe U U'∧M'=(b2,.var (.agg #[.int .i64 (n:Int),.slice p N c]),24)::M∧z=np - i) (n0:=np - 0) (E0:=[(5,.int .i64 ((0:Nat):Int)),(2,.pointer (some ⟨b2,0,none⟩)),(1,.slice pp np cp)]) ⟨rfl,rfl,rfl,trivial⟩ ⟨0,by omega,by rw [Nat.sub_zero]; exact hE0.symm,rfl,rfl,uc,rfl,rfl⟩ ?_
 rintro z E U1 M' ⟨i,hi,hper,rfl,rfl,hU1,rfl,rfl⟩
 try refine Qb ?_
 refine Qi rfl (fun h2=>?_) (fun h2=>?_)
 ·have hin:i < np:=by omega
  obtain ⟨v1,hv1⟩:=rm.at hin
  obtain ⟨pe,ce,xs,x,rfl,hce,rx,ex,-⟩:=em _ _ hv1
  have hni:=hne i hin
  rw [show np - i=np - (i+1)+1 by omega] at hper
  try refine Qb ?_
  refine Qx [] [0,1,2,3,4,5,6,7,8] sym (by kernel_rfl) ?_
  try refine Qb ?_
  refine QB (j:=i) hin (rm.get _ _ hv1).1 ?_
  try refine Qb ?_
  refine sl_y (Jc (j:=0) (u := .slice pe (ne i) ce) sym rfl rfl (by rw [QX]) rfl rfl (rm.up uc sb) hv1 rfl) rfl rfl rfl rfl ?_
  try refine Qb ?_
  refine QK rfl (fun h3=>?_) (fun h3=>?_)
  ·have hm:mer n (ne i) (e i)=4:=by unfold mer; rw [if_pos (by omega)]
   rw [qK (by rw [hm]; decide),hm] at hper
   rw [← hper]
   repeat (first|refine Qc ?_|refine Qa fun _=>?_|refine w_al fun _=>?_)
   exact Qe [] sym rfl (.cons (.tmp rfl) .nil) uc sb (.inl rfl) ⟨rfl,rfl,rfl⟩
  have h3:ne i=n:=by omega
  rw [h3] at rx hce hv1
  try refine Qb ?_
  try refine Qu (M':=(b2,.var (.agg #[.int .i64 (n:Int),.slice p N c]),24)::M) (ULe.refl _) sbk ?_
  refine Ql (fun z E U' M'=>∃ (k:Nat),k≤n∧(∀ t,t < k→0≤e i t∧e i t≤6)∧U=U'∧E=[(6,.int .i64 (k:Int)),(5,.int .i64 (i:Int)),(2,.pointer (some ⟨b2,0,none⟩)),(1,.slice pp np cp)]∧ULe U U'∧M'=(b2,.var (.agg #[.int .i64 (n:Int),.slice p N c]),24)::M∧z=n - k) (n0:=n - 0) (E0:=[(6,.int .i64 ((0:Nat):Int)),(5,.int .i64 (i:Int)),(2,.pointer (some ⟨b2,0,none⟩)),(1,.slice pp np cp)]) ⟨rfl,rfl,rfl,rfl,trivial⟩ ⟨0,by omega,(fun t h=>absurd h (Nat.not_lt_zero t)),rfl,rfl,uc,rfl,rfl⟩ ?_
  rintro z E U1 M' ⟨k,hk,hall,rfl,rfl,hU1,rfl,rfl⟩
  try refine Qb ?_
  refine Qi rfl (fun h4=>?_) (fun h4=>?_)
  ·have hkn:k < n:=by omega
   obtain ⟨w1,hw1⟩:=rx.at hkn
   obtain ⟨hv,hz⟩:=ex _ _ hw1
   subst hv
   have hbad:¬ (0≤e i k∧e i k≤6)→E0=2:=fun hb=>by
    have hm:mer n (ne i) (e i)=2:=by
     unfold mer
     rw [if_neg (by omega),if_neg fun h=>hb (h k hkn)]
    rw [qK (by rw [hm]; decide),hm] at hper
    exact hper.symm
   try refine Qb ?_
   refine QB (j:=i) hin (rm.get _ _ hv1).1 ?_
   try refine Qb ?_
   refine sl_y (Jc (j:=0) (u := .slice pe n ce) sym rfl rfl (by rw [QX]) rfl rfl (rm.up uc sb) hv1 rfl) rfl rfl rfl rfl ?_
   try refine Qb ?_
   refine sl_y (Qf sym rfl rfl rfl rfl rfl rfl ((rx.up uc sb).lt hw1) ((rx.up uc sb).get _ _ hw1).1) rfl rfl rfl rfl ?_; refine sl_y (Qk sym rfl rfl rfl rfl (rx.up uc sb) hw1 rfl) rfl rfl rfl rfl ?_
   try refine Qb ?_
   refine Qw rfl rfl (fun h5=>?_) (fun h5=>?_)
   ·rw [hbad (by omega)]
    repeat (first|refine Qc ?_|refine Qa fun _=>?_|refine w_al fun _=>?_)
    exact Qe [] sym rfl (.cons (.tmp rfl) .nil) uc sb (.inl rfl) ⟨rfl,rfl,rfl⟩
   try refine Qb ?_
   refine QB (j:=i) hin (rm.get _ _ hv1).1 ?_
   try refine Qb ?_
   refine sl_y (Jc (j:=0) (u := .slice pe n ce) sym rfl rfl (by rw [QX]) rfl rfl (rm.up uc sb) hv1 rfl) rfl rfl rfl rfl ?_
   try refine Qb ?_
   refine sl_y (Qf sym rfl rfl rfl rfl rfl rfl ((rx.up uc sb).lt hw1) ((rx.up uc sb).get _ _ hw1).1) rfl rfl rfl rfl ?_; refine sl_y (Qk sym rfl rfl rfl rfl (rx.up uc sb) hw1 rfl) rfl rfl rfl rfl ?_
   try refine Qb ?_
   refine Qi rfl (fun h6=>?_) (fun h6=>?_)
   ·rw [hbad (by omega)]
    repeat (first|refine Qc ?_|refine Qa fun _=>?_|refine w_al fun _=>?_)
    exact Qe [] sym rfl (.cons (.tmp rfl) .nil) uc sb (.inl rfl) ⟨rfl,rfl,rfl⟩
   try refine Qb ?_
   exact Qg (E':=[(6,.int .i64 ((k:Int)+1)),(5,.int .i64 (i:Int)),(2,.pointer (some ⟨b2,0,none⟩)),(1,.slice pp np cp)]) (m:=n - (k+1)) ⟨rfl,rfl,rfl,rfl,trivial⟩ (by omega) ⟨k+1,by omega,(fun t ht=>by
    rcases Nat.lt_or_eq_of_le (Nat.le_of_lt_succ ht) with h7 | h7
    ·exact hall t h7
    ·rw [h7]; omega),rfl,rfl,uc,rfl,rfl⟩
  ·obtain rfl:n=k:=by omega
   have hm:mer n (ne i) (e i)=0:=by unfold mer; rw [if_neg (by omega),if_pos hall]
   rw [Qaz hm] at hper
   try refine Qb ?_
   exact Qg (E':=[(5,.int .i64 ((i:Int)+1)),(2,.pointer (some ⟨b2,0,none⟩)),(1,.slice pp np cp)]) (m:=np - (i+1)) ⟨rfl,rfl,rfl,trivial⟩ (by omega) ⟨i+1,by omega,hper,rfl,rfl,uc,rfl,rfl⟩
 ·obtain rfl:np=i:=by omega
  rw [Nat.sub_self] at hper
  have hper:(0:Int)=E0:=hper
  rw [← hper]
  try refine Qb ?_
  exact Qe [] sym rfl (.cons (.tmp rfl) .nil) uc sb (.inl rfl) ⟨rfl,rfl,rfl⟩
end Go.Proofs.YthnnlgjlhnmhnaaGreat

/- Walks of layer 36: the step of weighted with a polynomial. -/
namespace Go.Proofs.YthnnlgjlhnmhnaaGreat
open Go.Hp
variable {G:World} {U U':UH} {M:MH}
def mpz (e:Nat→Int) (x:Nat→Int):Nat→Int
 | 0=>1
 | k+1=>mpz e x k*x k ^ (e k).toNat
theorem QdW {z:Int}:∀ j:Nat,((z ^ j:Int):Rat)=pwr (z:Rat) j
 | 0=>by rw [Int.pow_zero]; rfl
 | j+1=>by
  rw [Int.pow_succ,Rat.intCast_mul,QdW j]; rfl
theorem yz {e x:Nat→Int}:∀ k:Nat,((mpz e x k:Int):Rat)=mpx e x k
 | 0=>rfl
 | k+1=>by
  show ((mpz e x k*x k ^ (e k).toNat:Int):Rat)=mpx e x k*pwr _ _
  rw [Rat.intCast_mul,yz k,QdW]
set_option maxHeartbeats 4000000 in
theorem QiL {P q n cx np b B K b2 b3 b4 b5 bm bc cp:Nat} {px pp:Option Addr} {ms cs xs:List Value} {Dm Dc X:MH} {w:Nat→Rat} {x:Nat→Int} {ne:Nat→Nat} {e:Nat→Nat→Int} {qq:Nat→Rat} (hP:P≤1000) (hrow:RowO TInt 1 Dm (some ⟨bm,0,none⟩) P P ms)
  (hms:∀ i,i < P→∃ z:Nat,ms[i]?=some (.int .i64 (z:Int))∧z≤K) (hK:K≤4611686018427387904) (hrc:RowO TR 4 Dc (some ⟨bc,0,none⟩) P P cs) (hcs:El (Wq B) U cs w) (rx:RowAt U X 1 px n xs) (ex:El Vz U xs x) (hn:n≤8) (hxb:∀ k,k < n → -1048576≤x k∧x k≤1048576)
  (hp:Pol b U X (.slice pp np cp) np ne e qq) (hf:Fit np n ne e) (hb1:1≤b) (hb:b≤100000) (hB1:1≤B) (hB:B≤1000000000) (hS:∀ i,i≤np→Szq (w q+La.sm i fun t=>qq t*mpx (e t) x n) B) :
  Cx Tryz.prog 68 [.slice px n cx,.int .i64 (q:Int),.pointer (some ⟨b2,0,none⟩),.pointer (some ⟨b3,0,none⟩),.pointer (some ⟨b4,0,none⟩),.pointer (some ⟨b5,0,none⟩)] G U
   ((b3,.var (.slice (some ⟨bm,0,none⟩) P P),TIs)::(b2,.var (.int .i64 (P:Int)),TInt)::(b4,.var (.slice pp np cp),25)::(b5,.var (.slice (some ⟨bc,0,none⟩) P P),35)::(Dm++(Dc++X)))
   fun _ U' M'=>∃ Dm' ms' Dc' cs',M'=(b3,.var (.slice (some ⟨bm,0,none⟩) P P),TIs)::(b2,.var (.int .i64 (P:Int)),TInt)::(b4,.var (.slice pp np cp),25)::(b5,.var (.slice (some ⟨bc,0,none⟩) P P),35)::(Dm'++(Dc'++X)) ∧
    RowO TInt 1 Dm' (some ⟨bm,0,none⟩) P P ms'∧(∀ i,i < P→∃ z:Nat,ms'[i]?=some (.int .i64 (z:Int))∧z≤K+1)∧RowO TR 4 Dc' (some ⟨bc,0,none⟩) P P cs'∧El (Wq B) U' cs' fun a=>if a=q then w a+pex np n e qq x else w a:=by
 obtain ⟨_,cp0,msm,hpe,hcp,rm,em⟩:=hp
 cases hpe
 obtain ⟨h60,hfi⟩:=hf
 refine JX Tryz.func68 rfl rfl rfl rfl ?_
 repeat (first|refine Qc ?_|refine Qa fun _=>?_|refine w_al fun _=>?_)
 refine Qi rfl (fun h=>?_) (fun h=>?_)
 ·repeat (first|refine Qc ?_|refine Qa fun _=>?_|refine w_al fun _=>?_)
  refine Jv sym rfl .nil uc (List.Sublist.refl _) (.inl rfl) ⟨Dm,ms,Dc,cs,rfl,hrow,fun i hi=>?_,hrc,fun a u ha=>?_⟩
  ·obtain ⟨z,h1,h2⟩:=hms i hi
   exact ⟨z,h1,by omega⟩
  ·have hlt:=(List.getElem?_eq_some_iff.1 ha).1
   have hlc:=hrc.len.1
   show Wq B U u (if a=q then _ else w a)
   rw [if_neg (by omega)]
   exact hcs a u ha
 ·have hqP:q < P:=by omega
  obtain ⟨zq,hv,hzq⟩:=hms q hqP
  have rX:=hrow.at (U:=U) (M:=(b3,.var (.slice (some ⟨bm,0,none⟩) P P),TIs)::(b2,.var (.int .i64 (P:Int)),TInt)::(b4,.var (.slice pp np cp),25)::(b5,.var (.slice (some ⟨bc,0,none⟩) P P),35)::(Dm++(Dc++X))) sb
  repeat (first|refine Qc ?_|refine Qa fun _=>?_|refine w_al fun _=>?_)
  refine sl_y (Qf sym rfl rfl rfl rfl rfl rfl (rX.lt hv) (rX.get _ _ hv).1) rfl rfl rfl rfl ?_; refine sl_y (Qk sym rfl rfl rfl rfl rX hv rfl) rfl rfl rfl rfl ?_
  repeat (first|refine Qc ?_|refine Qa fun _=>?_|refine w_al fun _=>?_)
  refine QB (j:=q) hqP rfl ?_
  refine QG (v := .int .i64 ((zq:Int)+1)) (X:=(b3,.var (.slice (some ⟨bm,0,none⟩) P P),TIs)::(b2,.var (.int .i64 (P:Int)),TInt)::(b4,.var (.slice pp np cp),25)::(b5,.var (.slice (some ⟨bc,0,none⟩) P P),35)::(Dc++X)) hrow pgs hqP (fun D3 hr3=>?_)
  refine Qj (M':=(b3,.var (.slice (some ⟨bm,0,none⟩) P P),TIs)::(b2,.var (.int .i64 (P:Int)),TInt)::(b4,.var (.slice pp np cp),25)::(b5,.var (.slice (some ⟨bc,0,none⟩) P P),35)::(D3++(Dc++X))) ?_ pgs
  have hms3:∀ i,i < P→∃ z:Nat,(ms.set q (.int .i64 ((zq:Int)+1)))[i]?=some (.int .i64 (z:Int))∧z≤K+1:=fun i hi=>by
   have hlen:=hrow.len.1
   by_cases e1:q=i
   ·subst e1
    exact ⟨zq+1,by rw [List.getElem?_set_self (by omega)]; rfl,by omega⟩
   ·obtain ⟨z,h1,h2⟩:=hms i hi
    exact ⟨z,by rw [List.getElem?_set_ne e1]; exact h1,by omega⟩
  generalize ms.set q (.int .i64 ((zq:Int)+1))=ms3 at hr3 hms3
  clear hrow hms rX hv
  have hcs0:El (Wq B) U cs (fun a=>if a=q then w a+La.sm 0 (fun t=>qq t*mpx (e t) x n) else w a):=fun a u ha=>by
   have h0:=hcs a u ha
   show Wq B U u (if a=q then w a+0 else w a)
   rw [Rat.add_zero,ite_self]; exact h0
  repeat (first|refine Qc ?_|refine Qa fun _=>?_|refine w_al fun _=>?_)
  try refine Qu (M':=(b3,.var (.slice (some ⟨bm,0,none⟩) P P),TIs)::(b2,.var (.int .i64 (P:Int)),TInt)::(b4,.var (.slice pp np cp),25)::(b5,.var (.slice (some ⟨bc,0,none⟩) P P),35)::(D3++(Dc++X))) (ULe.refl _) sbk ?_
  refine Ql (fun z E U' M'=>∃ (i:Nat) (cs:List Value) (Dc:MH),i≤np∧RowO TR 4 Dc (some ⟨bc,0,none⟩) P P cs∧El (Wq B) U' cs (fun a=>if a=q then w a+La.sm i (fun t=>qq t*mpx (e t) x n) else w a)∧E=[(24,.int .i64 (i:Int)),(23,.int .i64 (np:Int)),(22,.slice pp np cp),(0,.slice px n cx),(1,.int .i64 (q:Int)),(5,.pointer (some ⟨b5,0,none⟩))]∧ULe U U'∧M'=(b3,.var (.slice (some ⟨bm,0,none⟩) P P),TIs)::(b2,.var (.int .i64 (P:Int)),TInt)::(b4,.var (.slice pp np cp),25)::(b5,.var (.slice (some ⟨bc,0,none⟩) P P),35)::(D3++(Dc++X))∧z=np - i) (n0:=np - 0) (E0:=[(24,.int .i64 ((0:Nat):Int)),(23,.int .i64 (np:Int)),(22,.slice pp np cp),(0,.slice px n cx),(1,.int .i64 (q:Int)),(5,.pointer (some ⟨b5,0,none⟩))]) ⟨rfl,rfl,rfl,rfl,rfl,rfl,trivial⟩ ⟨0,cs,Dc,by omega,hrc,hcs0,rfl,uc,rfl,rfl⟩ ?_
  clear hrc hcs hcs0
  rintro z E U1 M' ⟨i,cs,Dc,hi,hrc,hcs,rfl,hU1,rfl,rfl⟩
  try refine Qb ?_
  refine Qi rfl (fun h2=>?_) (fun h2=>?_)
  ·have hin:i < np:=by omega
   obtain ⟨hne,hex⟩:=hfi i hin
   obtain ⟨v1,hv1⟩:=rm.at hin
   obtain ⟨pe,ce,es,xc,rfl,hce,re,ee,hxc,hlc⟩:=em _ _ hv1
   rw [hne] at re hce hv1
   repeat (first|refine Qc ?_|refine Qa fun _=>?_|refine w_al fun _=>?_)
   refine sl_y (Qf sym rfl rfl rfl rfl rfl rfl ((rm.up uc sb).lt hv1) ((rm.up uc sb).get _ _ hv1).1) rfl rfl rfl rfl ?_; refine sl_y (Qp sym rfl rfl rfl rfl rfl (rm.up uc sb) hv1) rfl rfl rfl rfl ?_
   repeat (first|refine Qc ?_|refine Qa fun _=>?_|refine w_al fun _=>?_)
   rename_i b9
   refine Qd rfl rfl rfl rfl rfl rfl (fun _=>(VY (z:=1) (by decide) (by decide)).settle) ?_
   rintro v Uh5 D hU ⟨rfl,_,_,⟨xh5,rfl,h5,-⟩,-,-,hs⟩
   replace h5:=h5.sett hs
   clear hs
   repeat (first|refine Qc ?_|refine Qa fun _=>?_|refine w_al fun _=>?_)
   rename_i b10
   try refine Qu (M':=(b10,.var xh5.v,46)::(b9,.var (.agg #[.slice pe n ce,.bool xc.num.neg,.slice xc.num.p xc.num.n xc.num.c,.bool xc.den.neg,.slice xc.den.p xc.den.n xc.den.c]),50)::(b3,.var (.slice (some ⟨bm,0,none⟩) P P),TIs)::(b2,.var (.int .i64 (P:Int)),TInt)::(b4,.var (.slice pp np cp),25)::(b5,.var (.slice (some ⟨bc,0,none⟩) P P),35)::(D3++(Dc++X))) (ULe.refl _) sbk ?_
   refine Ql (fun z E U' M'=>∃ (k:Nat) (xl:IV),k≤n∧xl.nrm U' [] (mpz (e i) x k)∧Sz (mpz (e i) x k) (exs (e i) k+1)∧E=[(32,.int .i64 (k:Int)),(31,.int .i64 (n:Int)),(30,.slice pe n ce),(24,.int .i64 (i:Int)),(23,.int .i64 (np:Int)),(22,.slice pp np cp),(0,.slice px n cx),(1,.int .i64 (q:Int)),(5,.pointer (some ⟨b5,0,none⟩)),(9,.pointer (some ⟨b9,0,none⟩)),(10,.pointer (some ⟨b10,0,none⟩))]∧ULe U1 U'∧M'=(b10,.var xl.v,46)::(b9,.var (.agg #[.slice pe n ce,.bool xc.num.neg,.slice xc.num.p xc.num.n xc.num.c,.bool xc.den.neg,.slice xc.den.p xc.den.n xc.den.c]),50)::(b3,.var (.slice (some ⟨bm,0,none⟩) P P),TIs)::(b2,.var (.int .i64 (P:Int)),TInt)::(b4,.var (.slice pp np cp),25)::(b5,.var (.slice (some ⟨bc,0,none⟩) P P),35)::(D3++(Dc++X))∧z=n - k) (n0:=n - 0) (E0:=[(32,.int .i64 ((0:Nat):Int)),(31,.int .i64 (n:Int)),(30,.slice pe n ce),(24,.int .i64 (i:Int)),(23,.int .i64 (np:Int)),(22,.slice pp np cp),(0,.slice px n cx),(1,.int .i64 (q:Int)),(5,.pointer (some ⟨b5,0,none⟩)),(9,.pointer (some ⟨b9,0,none⟩)),(10,.pointer (some ⟨b10,0,none⟩))]) ⟨rfl,rfl,rfl,rfl,rfl,rfl,rfl,rfl,rfl,rfl,rfl,trivial⟩ ⟨0,xh5,by omega,h5.up uc (List.Sublist.refl _),(show Sz 1 1 by unfold Sz; decide),rfl,uc,rfl,rfl⟩ ?_
   rintro z E U2 M' ⟨k,xl,hk,hxl,hsl,rfl,hU2,rfl,rfl⟩
   try refine Qb ?_
   refine Qi rfl (fun h3=>?_) (fun h3=>?_)
   ·have hkn:k < n:=by omega
    obtain ⟨w1,hw1⟩:=re.at hkn
    obtain ⟨hv,hz⟩:=ee _ _ hw1
    subst hv
    obtain ⟨g1,g2⟩:=hex k hkn
    obtain ⟨N,hN⟩:∃ N:Nat,e i k=(N:Int):=⟨(e i k).toNat,by omega⟩
    have hN6:N≤6:=by omega
    have hes:=jc (e:=e i) (k:=k) fun t ht=>hex t (by omega)
    have hxk:=hxb k hkn
    obtain ⟨w2,hw2⟩:=rx.at hkn
    obtain ⟨hv2,hz2⟩:=ex _ _ hw2
    subst hv2
    rw [hN] at hw1
    repeat (first|refine Qc ?_|refine Qa fun _=>?_|refine w_al fun _=>?_)
    refine sl_y (Qf sym rfl rfl rfl rfl rfl rfl ((re.up uc sb).lt hw1) ((re.up uc sb).get _ _ hw1).1) rfl rfl rfl rfl ?_; refine sl_y (Qk sym rfl rfl rfl rfl (re.up uc sb) hw1 rfl) rfl rfl rfl rfl ?_
    repeat (first|refine Qc ?_|refine Qa fun _=>?_|refine w_al fun _=>?_)
    try refine Qu (M':=(b10,.var xl.v,46)::(b9,.var (.agg #[.slice pe n ce,.bool xc.num.neg,.slice xc.num.p xc.num.n xc.num.c,.bool xc.den.neg,.slice xc.den.p xc.den.n xc.den.c]),50)::(b3,.var (.slice (some ⟨bm,0,none⟩) P P),TIs)::(b2,.var (.int .i64 (P:Int)),TInt)::(b4,.var (.slice pp np cp),25)::(b5,.var (.slice (some ⟨bc,0,none⟩) P P),35)::(D3++(Dc++X))) (ULe.refl _) sbk ?_
    refine Ql (fun z E U' M'=>∃ (j:Nat) (xl:IV),j≤N∧xl.nrm U' [] (mpz (e i) x k*x k ^ j)∧Sz (mpz (e i) x k*x k ^ j) (exs (e i) k+j+1)∧E=[(38,.int .i64 (j:Int)),(37,.int .i64 (N:Int)),(11,.int .i64 (k:Int)),(32,.int .i64 (k:Int)),(31,.int .i64 (n:Int)),(30,.slice pe n ce),(24,.int .i64 (i:Int)),(23,.int .i64 (np:Int)),(22,.slice pp np cp),(0,.slice px n cx),(1,.int .i64 (q:Int)),(5,.pointer (some ⟨b5,0,none⟩)),(9,.pointer (some ⟨b9,0,none⟩)),(10,.pointer (some ⟨b10,0,none⟩))]∧ULe U2 U'∧M'=(b10,.var xl.v,46)::(b9,.var (.agg #[.slice pe n ce,.bool xc.num.neg,.slice xc.num.p xc.num.n xc.num.c,.bool xc.den.neg,.slice xc.den.p xc.den.n xc.den.c]),50)::(b3,.var (.slice (some ⟨bm,0,none⟩) P P),TIs)::(b2,.var (.int .i64 (P:Int)),TInt)::(b4,.var (.slice pp np cp),25)::(b5,.var (.slice (some ⟨bc,0,none⟩) P P),35)::(D3++(Dc++X))∧z=N - j) (n0:=N - 0) (E0:=[(38,.int .i64 ((0:Nat):Int)),(37,.int .i64 (N:Int)),(11,.int .i64 (k:Int)),(32,.int .i64 (k:Int)),(31,.int .i64 (n:Int)),(30,.slice pe n ce),(24,.int .i64 (i:Int)),(23,.int .i64 (np:Int)),(22,.slice pp np cp),(0,.slice px n cx),(1,.int .i64 (q:Int)),(5,.pointer (some ⟨b5,0,none⟩)),(9,.pointer (some ⟨b9,0,none⟩)),(10,.pointer (some ⟨b10,0,none⟩))]) ⟨rfl,rfl,rfl,rfl,rfl,rfl,rfl,rfl,rfl,rfl,rfl,rfl,rfl,rfl,trivial⟩ ⟨0,xl,by omega,(by rw [Int.pow_zero,Int.mul_one]; exact hxl.up uc (List.Sublist.refl _)),(by rw [Int.pow_zero,Int.mul_one]; exact hsl),rfl,uc,rfl,rfl⟩ ?_
    clear hxl hsl
    rintro z E U3 M' ⟨j,xl,hj,hxl,hsl,rfl,hU3,rfl,rfl⟩
    try refine Qb ?_
    refine Qi rfl (fun h4=>?_) (fun h4=>?_)
    ·have hjN:j < N:=by omega
     have sx:Sz (x k) 1:=by unfold Sz; omega
     have sm:=hsl.mul sx
     rw [Int.mul_assoc,← Int.pow_succ] at sm
     repeat (first|refine Qc ?_|refine Qa fun _=>?_|refine w_al fun _=>?_)
     refine Qx [6,7] [0,1,2,3,4,5,6,7] sym (by kernel_rfl) ?_
     repeat (first|refine Qc ?_|refine Qa fun _=>?_|refine w_al fun _=>?_)
     refine sl_y (Qf sym rfl rfl rfl rfl rfl rfl ((rx.up uc sb).lt hw2) ((rx.up uc sb).get _ _ hw2).1) rfl rfl rfl rfl ?_; refine sl_y (Qk sym rfl rfl rfl rfl (rx.up uc sb) hw2 rfl) rfl rfl rfl rfl ?_
     repeat (first|refine Qc ?_|refine Qa fun _=>?_|refine w_al fun _=>?_)
     refine Qd rfl rfl rfl rfl rfl rfl (fun _=>(VY (z:=x k) (by omega) (by omega)).settle) ?_
     rintro v Uh45 D hU ⟨rfl,_,_,⟨xh45,rfl,h45,-⟩,-,-,hs⟩
     replace h45:=h45.sett hs
     clear hs
     repeat (first|refine Qc ?_|refine Qa fun _=>?_|refine w_al fun _=>?_)
     refine Qd rfl rfl rfl rfl rfl rfl (fun _=>(YL (hxl.rep.up uc (List.nil_sublist _)) (hxl.le hsl (by omega)) (h45.rep.up uc (List.nil_sublist _)) (h45.le sx (by omega))).settle) ?_
     rintro v Uh46 D hU ⟨rfl,_,_,⟨xh46,rfl,h46,-⟩,-,-,hs⟩
     replace h46:=h46.sett hs
     clear hs
     repeat (first|refine Qc ?_|refine Qa fun _=>?_|refine w_al fun _=>?_)
     rw [Int.mul_assoc,← Int.pow_succ] at h46
     exact Qg (E':=[(38,.int .i64 ((j:Int)+1)),(37,.int .i64 (N:Int)),(11,.int .i64 (k:Int)),(32,.int .i64 (k:Int)),(31,.int .i64 (n:Int)),(30,.slice pe n ce),(24,.int .i64 (i:Int)),(23,.int .i64 (np:Int)),(22,.slice pp np cp),(0,.slice px n cx),(1,.int .i64 (q:Int)),(5,.pointer (some ⟨b5,0,none⟩)),(9,.pointer (some ⟨b9,0,none⟩)),(10,.pointer (some ⟨b10,0,none⟩))]) (m:=N - (j+1)) ⟨rfl,rfl,rfl,rfl,rfl,rfl,rfl,rfl,rfl,rfl,rfl,rfl,rfl,rfl,trivial⟩ (by omega) ⟨j+1,xh46,by omega,h46.up uc (List.Sublist.refl _),sm.mono (by omega),rfl,uc,rfl,rfl⟩
    ·obtain rfl:N=j:=by omega
     have em1:mpz (e i) x (k+1)=mpz (e i) x k*x k ^ N:=by
      show mpz (e i) x k*x k ^ (e i k).toNat=_
      rw [hN]; rfl
     have ee1:exs (e i) (k+1)=exs (e i) k+N:=by
      show exs (e i) k+(e i k).toNat=_
      rw [hN]; rfl
     repeat (first|refine Qc ?_|refine Qa fun _=>?_|refine w_al fun _=>?_)
     exact Qg (E':=[(32,.int .i64 ((k:Int)+1)),(31,.int .i64 (n:Int)),(30,.slice pe n ce),(24,.int .i64 (i:Int)),(23,.int .i64 (np:Int)),(22,.slice pp np cp),(0,.slice px n cx),(1,.int .i64 (q:Int)),(5,.pointer (some ⟨b5,0,none⟩)),(9,.pointer (some ⟨b9,0,none⟩)),(10,.pointer (some ⟨b10,0,none⟩))]) (m:=n - (k+1)) ⟨rfl,rfl,rfl,rfl,rfl,rfl,rfl,rfl,rfl,rfl,rfl,trivial⟩ (by omega) ⟨k+1,xl,by omega,by rw [em1]; exact hxl.up uc (List.Sublist.refl _),by rw [em1,ee1]; exact hsl,rfl,uc,rfl,rfl⟩
   ·obtain rfl:n=k:=by omega
    have hes:=jc (e:=e i) (k:=n) hex
    obtain ⟨T,hT⟩:∃ T,T=mpz (e i) x n:=⟨_,rfl⟩
    have hTx:((T:Int):Rat)=mpx (e i) x n:=by rw [hT]; exact yz n
    rw [← hT] at hxl hsl
    have hqc:q < P:=hqP
    have hlenc:=hrc.len.1
    obtain ⟨u1,hu1⟩:∃ u1,cs[q]?=some u1:=⟨_,List.getElem?_eq_getElem (by omega)⟩
    obtain ⟨xq,rfl,hxq,hlq⟩:Wq B U1 u1 (w q+La.sm i fun t=>qq t*mpx (e t) x n):=by
     have h0:=hcs q u1 hu1
     have h0:Wq B U1 u1 (if q=q then w q+La.sm i (fun t=>qq t*mpx (e t) x n) else w q):=h0
     rwa [if_pos rfl] at h0
    have rC:=hrc.at (U:=U2) (M:=(b10,.var xl.v,46)::(b9,.var (.agg #[.slice pe n ce,.bool xc.num.neg,.slice xc.num.p xc.num.n xc.num.c,.bool xc.den.neg,.slice xc.den.p xc.den.n xc.den.c]),50)::(b3,.var (.slice (some ⟨bm,0,none⟩) P P),TIs)::(b2,.var (.int .i64 (P:Int)),TInt)::(b4,.var (.slice pp np cp),25)::(b5,.var (.slice (some ⟨bc,0,none⟩) P P),35)::(D3++(Dc++X))) sb
    repeat (first|refine Qc ?_|refine Qa fun _=>?_|refine w_al fun _=>?_)
    refine Qx [12,13] [0,1,2,3,4,5,6,7,8,9,10,11,12,13] sym (by kernel_rfl) ?_
    repeat (first|refine Qc ?_|refine Qa fun _=>?_|refine w_al fun _=>?_)
    refine sl_y (Qf sym rfl rfl rfl rfl rfl rfl (rC.lt hu1) (rC.get _ _ hu1).1) rfl rfl rfl rfl ?_; refine sl_y (Qp sym rfl rfl rfl rfl rfl rC hu1) rfl rfl rfl rfl ?_
    repeat (first|refine Qc ?_|refine Qa fun _=>?_|refine w_al fun _=>?_)
    refine Qd rfl rfl rfl rfl rfl rfl (fun _=>(Qev (hxl.rep.up uc (List.nil_sublist _)) (hxl.le hsl (by omega))).settle) ?_
    rintro v Uh58 D hU ⟨rfl,_,_,⟨xh58,rfl,h58,-⟩,-,-,hs⟩
    replace h58:=h58.sett hs
    clear hs
    repeat (first|refine Qc ?_|refine Qa fun _=>?_|refine w_al fun _=>?_)
    have sT:Szq ((T:Int):Rat) (exs (e i) n+1):=Jx hsl (by omega)
    refine Qd rfl rfl rfl rfl rfl rfl (fun _=>(YM (x:=xc) (hxc.up uc sb) (by omega) (h58.rep.up uc (List.nil_sublist _)) (h58.le sT (by omega))).settle) ?_
    rintro v Uh59 D hU ⟨rfl,_,_,⟨xh59,rfl,h59,-⟩,-,-,hs⟩
    replace h59:=h59.sett hs
    clear hs
    repeat (first|refine Qc ?_|refine Qa fun _=>?_|refine w_al fun _=>?_)
    have sq:=hxc.sz hlc hb1
    have sm1:=sq.mul sT
    refine Qd rfl rfl rfl rfl rfl rfl (fun _=>(YP (x:=xq) (hxq.up uc (List.nil_sublist _)) ⟨Nat.le_trans hlq.1 (by omega),Nat.le_trans hlq.2 (by omega)⟩ (h59.rep.up uc (List.nil_sublist _)) (h59.le sm1 (by omega))).settle) ?_
    rintro v Uh60 D hU ⟨rfl,_,_,⟨xh60,rfl,h60,-⟩,-,-,hs⟩
    replace h60:=h60.sett hs
    clear hs
    repeat (first|refine Qc ?_|refine Qa fun _=>?_|refine w_al fun _=>?_)
    have e60:w q+La.sm i (fun t=>qq t*mpx (e t) x n)+qq i*((T:Int):Rat)=w q+La.sm (i+1) (fun t=>qq t*mpx (e t) x n):=by
     rw [hTx,Rat.add_assoc]; rfl
    rw [e60] at h60
    have s60:=hS (i+1) (by omega)
    refine QB (j:=q) hqP rfl ?_
    refine QG (v:=xh60.v) (X:=(b10,.var xl.v,46)::(b9,.var (.agg #[.slice pe n ce,.bool xc.num.neg,.slice xc.num.p xc.num.n xc.num.c,.bool xc.den.neg,.slice xc.den.p xc.den.n xc.den.c]),50)::(b3,.var (.slice (some ⟨bm,0,none⟩) P P),TIs)::(b2,.var (.int .i64 (P:Int)),TInt)::(b4,.var (.slice pp np cp),25)::(b5,.var (.slice (some ⟨bc,0,none⟩) P P),35)::(D3++X)) hrc pgs hqP (fun D5 hr5=>?_)
    refine Qj (M':=(b10,.var xl.v,46)::(b9,.var (.agg #[.slice pe n ce,.bool xc.num.neg,.slice xc.num.p xc.num.n xc.num.c,.bool xc.den.neg,.slice xc.den.p xc.den.n xc.den.c]),50)::(b3,.var (.slice (some ⟨bm,0,none⟩) P P),TIs)::(b2,.var (.int .i64 (P:Int)),TInt)::(b4,.var (.slice pp np cp),25)::(b5,.var (.slice (some ⟨bc,0,none⟩) P P),35)::(D3++(D5++X))) ?_ pgs
    have hcs5:El (Wq B) Uh60 (cs.set q xh60.v) (fun a=>if a=q then w a+La.sm (i+1) (fun t=>qq t*mpx (e t) x n) else w a):=fun a u ha=>by
     by_cases e1:q=a
     ·subst e1
      rw [List.getElem?_set_self (by omega),Option.some.injEq] at ha
      show Wq B Uh60 u (if q=q then _ else _)
      rw [if_pos rfl,← ha]
      exact ⟨xh60,rfl,h60.rep,h60.le s60 (Nat.le_refl _)⟩
     ·rw [List.getElem?_set_ne e1] at ha
      have h0:Wq B U1 u (if a=q then _ else w a):=hcs a u ha
      rw [if_neg (Ne.symm e1)] at h0
      show Wq B Uh60 u (if a=q then _ else w a)
      rw [if_neg (Ne.symm e1)]
      exact VM _ _ _ _ uc h0
    repeat (first|refine Qc ?_|refine Qa fun _=>?_|refine w_al fun _=>?_)
    refine QU (M':=(b3,.var (.slice (some ⟨bm,0,none⟩) P P),TIs)::(b2,.var (.int .i64 (P:Int)),TInt)::(b4,.var (.slice pp np cp),25)::(b5,.var (.slice (some ⟨bc,0,none⟩) P P),35)::(D3++(D5++X))) (ULe.refl _) sbk ?_
    exact Qg (E':=[(24,.int .i64 ((i:Int)+1)),(23,.int .i64 (np:Int)),(22,.slice pp np cp),(0,.slice px n cx),(1,.int .i64 (q:Int)),(5,.pointer (some ⟨b5,0,none⟩))]) (m:=np - (i+1)) ⟨rfl,rfl,rfl,rfl,rfl,rfl,trivial⟩ (by omega) ⟨i+1,cs.set q xh60.v,D5,by omega,hr5,hcs5,rfl,uc,rfl,rfl⟩
  ·obtain rfl:np=i:=by omega
   repeat (first|refine Qc ?_|refine Qa fun _=>?_|refine w_al fun _=>?_)
   exact Jv sym rfl .nil uc (List.Sublist.refl _) (.inr rfl) ⟨D3,ms3,Dc,cs,rfl,hr3,hms3,hrc,hcs⟩
end Go.Proofs.YthnnlgjlhnmhnaaGreat

/- Walks of layer 36: weighted with a polynomial. -/
namespace Go.Proofs.YthnnlgjlhnmhnaaGreat
open Go.Hp
variable {G:World} {U U':UH} {M:MH}
theorem QcX {e x:Nat→Int} {n:Nat} (hx:∀ k,k < n → -1048576≤x k∧x k≤1048576):∀ k,k≤n→Sz (mpz e x k) (exs e k+1)
 | 0,_=>by show Sz 1 (0+1); unfold Sz; decide
 | k+1,h=>by
  have ih:=QcX (e:=e) hx k (by omega)
  have hxk:=hx k (by omega)
  have sx:Sz (x k) 1:=by unfold Sz; omega
  have sp:∀ j:Nat,Sz (mpz e x k*x k ^ j) (exs e k+1+j):=fun j=>by
   induction j with
   | zero=>rw [Int.pow_zero,Int.mul_one]; exact ih
   | succ j ihj =>
    rw [Int.pow_succ,← Int.mul_assoc]
    exact ihj.mul sx
  exact (sp (e k).toNat).mono (by show _≤exs e k+(e k).toNat+1; omega)
theorem QiK {n np b:Nat} {ne:Nat→Nat} {e:Nat→Nat→Int} {q:Nat→Rat} {x:Nat→Int} (hn:n≤8) (hf:Fit np n ne e) (hq:∀ i,i < np→Szq (q i) b) (hx:∀ k,k < n → -1048576≤x k∧x k≤1048576) {i:Nat} (hi:i≤np):Szq (La.sm i fun t=>q t*mpx (e t) x n) (1+60*(b+50)):=by
 obtain ⟨h60,hfi⟩:=hf
 refine (vh (k:=b+49) fun t ht=>?_).mono ?_
 ·have h1:=QcX (e:=e t) hx n (Nat.le_refl n)
  have h2:=jc (e:=e t) (k:=n) (hfi t (by omega)).2
  rw [← yz]
  exact (hq t (by omega)).mul ((Jx h1 (by omega)).mono (by omega))
 ·have:=Nat.mul_le_mul_right (b+49+1) (show i≤60 by omega)
  omega
theorem QcZ {b np:Nat} {v:Value} {ne:Nat→Nat} {e:Nat→Nat→Int} {q:Nat→Rat} (h:Pol b U M v np ne e q) (hb1:1≤b):∀ i,i < np→Szq (q i) b:=fun i hi=>by
 obtain ⟨p,c,ms,h1,h2,h3,h4⟩:=h
 obtain ⟨u,hu⟩:=h3.at hi
 obtain ⟨pe,ce,xs,x,-,-,-,-,h5,h6⟩:=h4 i u hu
 exact h5.sz h6 hb1
set_option maxHeartbeats 4000000 in
theorem vU {n c np kb B cp:Nat} {prec:Int} {p:Option Addr} {pp:Addr} {vs:List Value} {f:Nat→Int} {ne:Nat→Nat} {e:Nat→Nat→Int} {qq:Nat→Rat} (rw1:RowAt U [] 1 p (n*n) vs) (el:El Vz U vs f) (hb:∀ k,k < n*n → -1000≤f k∧f k≤1000) (he:Evn n f) (hp:Pdm n f) (h1n:1≤n) (hn:n≤8) (h64 : -9223372036854775808≤prec∧prec≤9223372036854775807)
  (hpl:Pol kb U M (.slice (some pp) np cp) np ne e qq) (hf:Fit np n ne e) (hb1:1≤kb) (hb2:kb≤100) (hB1:1≤B) (hB:B≤900000) (hS:∀ P:Nat,prec=(P:Int)→P≤1000→WSz n f P B (pex np n e qq)) :
  Ct Tryz.prog 31 [.agg #[.int .i64 (n:Int),.slice p (n*n) c],.slice (some pp) np cp,.int .i64 prec] G U M fun v U' D =>
   ((prec < 0∨1000 < prec)→v = .tuple #[.agg #[.int .i64 0,.slice none 0 0],.int .i64 2])∧(∀ P:Nat,prec=(P:Int)→P≤1000→WgtP n f P (pex np n e qq) U' v)∧D=[]:=by
 have hnn:n*n≤8*8:=Nat.mul_le_mul hn hn
 refine Qh Tryz.func31 rfl rfl rfl rfl ?_
 repeat (first|refine Qc ?_|refine Qa fun _=>?_|refine w_al fun _=>?_)
 rename_i b3 b4 b5 b6
 refine Qw rfl rfl (fun h1=>?_) (fun h1=>?_)
 ·repeat (first|refine Qc ?_|refine Qa fun _=>?_|refine w_al fun _=>?_)
  exact Qe [] sym rfl (.cons (.cell 0 rfl rfl rfl) (.cons (.tmp rfl) .nil)) uc sb (.inl rfl) ⟨fun _=>rfl,fun P e _=>by omega,rfl⟩
 repeat (first|refine Qc ?_|refine Qa fun _=>?_|refine w_al fun _=>?_)
 refine Qi rfl (fun h2=>?_) (fun h2=>?_)
 ·repeat (first|refine Qc ?_|refine Qa fun _=>?_|refine w_al fun _=>?_)
  exact Qe [] sym rfl (.cons (.cell 0 rfl rfl rfl) (.cons (.tmp rfl) .nil)) uc sb (.inl rfl) ⟨fun _=>rfl,fun P e _=>by omega,rfl⟩
 obtain ⟨P,rfl⟩:∃ P:Nat,prec=(P:Int):=⟨prec.toNat,by omega⟩
 have hpd:=(Vf he hp).2.1
 replace hS:=hS P rfl (by omega)
 repeat (first|refine Qc ?_|refine Qa fun _=>?_|refine w_al fun _=>?_)
 rw [show (if (P:Int) - 1 > 0 then (P:Int) - 1 else 0)=((P - 1:Nat):Int) by omega]
 refine Qd rfl rfl rfl rfl rfl rfl (fun _=>QdE (m:=P - 1) (rw1.up uc (List.nil_sublist _)) (el.up KeptC.out uc) hb he hp h1n hn (by omega)) ?_
 rintro v7 U7 D7 hU7 ⟨X,hX,hbx1,hbx2,rfl⟩
 rw [List.nil_append]
 have hcon:∀ v:Value,∀ U8,WgtP n f P (pex np n e qq) U8 v→((P:Int) < 0∨1000 < (P:Int)→v = .tuple #[.agg #[.int .i64 0,.slice none 0 0],.int .i64 2])∧∀ P':Nat,(P:Int)=(P':Int)→P'≤1000→WgtP n f P' (pex np n e qq) U8 v:=fun v U8 h=>⟨fun h3=>by omega,fun P' e _=>by
  obtain rfl:P=P':=Int.ofNat.inj e
  exact h⟩
 rcases Nat.lt_or_ge 1048576 (Bx.pre (bd X (P - 1)) n) with hbig | hbx
 ·obtain rfl:=hbx2 hbig
  have hc8:=hcon (tup [.agg #[.int .i64 0,.slice none 0 0],.int .i64 7]) U7 ⟨X,hX,fun h=>by omega,fun _=>rfl⟩
  repeat (first|refine Qc ?_|refine Qa fun _=>?_|refine w_al fun _=>?_)
  exact Qe [] sym rfl (.cons (.cell 0 rfl rfl rfl) (.cons (.tmp rfl) .nil)) uc sb (.inl rfl) ⟨hc8.1,hc8.2,rfl⟩
 obtain ⟨_,rfl,pb,cb,bs,rfl,hcb,rb,eb⟩:=hbx1 hbx
 have hS2:=hS X hX hbx
 obtain ⟨b,hbd⟩:∃ b,b=bd X (P - 1):=⟨_,rfl⟩
 rw [← hbd] at hbx eb hS2
 have hsd:∀ i,i < n→b i≤1048576:=fun i hi=>by have:=qF hi hbx; omega
 repeat (first|refine Qc ?_|refine Qa fun _=>?_|refine w_al fun _=>?_)
 refine QQ (m:=P) (n:=P) sym rfl rfl rfl rfl rfl rfl rfl rfl rfl (Nat.le_refl P) (by omega) (by omega) rfl rfl rfl rfl (fun bm=>?_)
 have hrm:=Jk (e:=TInt) (s:=1) (b:=bm) (n:=P) (z := .int .i64 0) rfl (by omega)
 have hm0:∀ i,i < P→∃ z:Nat,(List.replicate P (Value.int .i64 0))[i]?=some (.int .i64 (z:Int))∧z≤0:=fun i hi=>⟨0,by rw [List.getElem?_replicate,if_pos hi]; rfl,Nat.le_refl 0⟩
 repeat (first|refine Qc ?_|refine Qa fun _=>?_|refine w_al fun _=>?_)
 rename_i b10
 refine QQ (m:=P) (n:=P) sym rfl rfl rfl rfl rfl rfl rfl rfl rfl (Nat.le_refl P) (by omega) (by omega) rfl rfl rfl rfl (fun bc=>?_)
 have hrc:=Jk (e:=TR) (s:=4) (b:=bc) (n:=P) (z:=zeroQV.v) rfl (by omega)
 repeat (first|refine Qc ?_|refine Qa fun _=>?_|refine w_al fun _=>?_)
 rename_i b11
 refine sl_y (yc rfl rfl) rfl rfl rfl rfl ?_
 refine Qj (M':=(b10,.var (.slice (some ⟨bm,0,none⟩) P P),TIs)::(b5,.var (.int .i64 (P:Int)),TInt)::(b4,.var (.slice (some pp) np cp),25)::(b11,.var (.slice (some ⟨bc,0,none⟩) P P),35)::([(bm,.arr (List.replicate P (.int .i64 0)),TInt)]++([(bc,.arr (List.replicate P zeroQV.v),TR)]++((b6,.var (.agg #[.int .i64 0,.slice none 0 0]),37)::(b3,.var (.agg #[.int .i64 (n:Int),.slice p (n*n) c]),24)::M)))) ?_ pgs
 generalize List.replicate P (Value.int .i64 0)=ms0 at hrm hm0 ⊢
 generalize [(bm,Blk.arr ms0,TInt)]=Dm0 at hrm ⊢
 have hc0:El (Wq 1000000) U7 (List.replicate P zeroQV.v) (ww n f b (fun k=>pex np n e qq (Bx.vec b n k)) 0):=fun a u ha=>by
  rw [List.getElem?_replicate] at ha
  split at ha
  ·cases ha
   exact ⟨zeroQV,rfl,vE,Nat.zero_le _,Nat.zero_le _⟩
  ·cases ha
 generalize List.replicate P zeroQV.v=cs0 at hrc hc0 ⊢
 generalize [(bc,Blk.arr cs0,TR)]=Dc0 at hrc ⊢
 have hqs:=QcZ hpl hb1
 have hst:Stp 68 [.pointer (some ⟨b5,0,none⟩),.pointer (some ⟨b10,0,none⟩),.pointer (some ⟨b4,0,none⟩),.pointer (some ⟨b11,0,none⟩)] G U7 n f b
   (fun k U1 L=>∃ Dm ms Dc cs,L=(b10,.var (.slice (some ⟨bm,0,none⟩) P P),TIs)::(b5,.var (.int .i64 (P:Int)),TInt)::(b4,.var (.slice (some pp) np cp),25)::(b11,.var (.slice (some ⟨bc,0,none⟩) P P),35)::(Dm++(Dc++((b6,.var (.agg #[.int .i64 0,.slice none 0 0]),37)::(b3,.var (.agg #[.int .i64 (n:Int),.slice p (n*n) c]),24)::M)))∧RowO TInt 1 Dm (some ⟨bm,0,none⟩) P P ms∧(∀ i,i < P→∃ z:Nat,ms[i]?=some (.int .i64 (z:Int))∧z≤k)∧RowO TR 4 Dc (some ⟨bc,0,none⟩) P P cs∧El (Wq 1000000) U1 cs (ww n f b (fun k=>pex np n e qq (Bx.vec b n k)) k)):=by
  intro k U1 L E px cx xs hk hU hI hrx hex
  obtain ⟨Dm,ms,Dc,cs,rfl,hrow,hms,hrow2,hcs⟩:=hI
  rw [QfB hpd]
  have hka:Bx.all b n≤1048576:=by rw [Bx.pre_vol]; exact hbx
  have hxb:∀ t,t < n → -1048576≤Bx.vec b n k t∧Bx.vec b n k t≤1048576:=fun t ht=>by
   have:=hsd t ht
   have:=Bx.vec_le b n k t
   omega
  have hpre:Bx.pre b n=Bx.all b n:=by rw [Bx.pre_vol]
  have sw:∀ q,Szq (ww n f b (fun k=>pex np n e qq (Bx.vec b n k)) k q) B:=fun q=>by
   cases k with
   | zero=>exact Yn.mono hB1
   | succ k=>exact (hS2 k (by rw [hpre]; omega)).2 q
  refine ((QiL (B:=1000000) (K:=k) (X:=E++((b6,.var (.agg #[.int .i64 0,.slice none 0 0]),37)::(b3,.var (.agg #[.int .i64 (n:Int),.slice p (n*n) c]),24)::M)) (show P≤1000 by omega) hrow hms (by omega) hrow2 hcs (hrx.up (ULe.refl _) (List.sublist_append_left ..)) hex hn hxb (hpl.up uc sb) hf hb1 (by omega) (by decide) (by decide) fun i hi=>((sw _).add (QiK hn hf hqs hxb hi)).mono (by omega)).perm pgs).out fun v U' M' hU' hR=>?_
  obtain ⟨Dm',ms',Dc',cs',rfl,hr',hms',hrc',hcs'⟩:=hR
  refine ⟨E++((b10,.var (.slice (some ⟨bm,0,none⟩) P P),TIs)::(b5,.var (.int .i64 (P:Int)),TInt)::(b4,.var (.slice (some pp) np cp),25)::(b11,.var (.slice (some ⟨bc,0,none⟩) P P),35)::(Dm'++(Dc'++((b6,.var (.agg #[.int .i64 0,.slice none 0 0]),37)::(b3,.var (.agg #[.int .i64 (n:Int),.slice p (n*n) c]),24)::M)))),pgs,_,rfl,Dm',ms',Dc',cs',rfl,hr',hms',hrc',fun a u ha=>?_⟩
  have h0:=hcs' a u ha
  have h0:Wq 1000000 U' u (if a=vn n f b k then _ else _):=h0
  show Wq 1000000 U' u (if vn n f b k=a then _ else _)
  by_cases e1:a=vn n f b k
  ·rw [if_pos e1] at h0
   rw [if_pos e1.symm]; exact h0
  ·rw [if_neg e1] at h0
   rw [if_neg (Ne.symm e1)]; exact h0
 refine JP rfl rfl rfl rfl rfl rfl (QbU (rw1.up uc (List.nil_sublist _)) (el.up KeptC.out uc) hb (rb.up uc (List.nil_sublist _)) (eb.up KeptC.out uc) hsd h1n hn hst ⟨Dm0,ms0,Dc0,cs0,rfl,hrm,hm0,hrc,hc0⟩) ?_
 rintro v8 U8 M8 hU8 ⟨Dm,ms,Dc,cs,rfl,hrow,hms,hrow2,hcs⟩
 rw [Bx.pre_vol] at hcs
 clear hst hrm hm0 hrc hc0 hms
 obtain ⟨g,hg⟩:∃ g,g=ww n f b (fun k=>pex np n e qq (Bx.vec b n k)) (Bx.pre b n):=⟨_,rfl⟩
 rw [← hg] at hcs
 refine Qj (M':=(b11,.var (.slice (some ⟨bc,0,none⟩) P P),35)::(b6,.var (.agg #[.int .i64 0,.slice none 0 0]),37)::(b4,.var (.slice (some pp) np cp),25)::((b10,.var (.slice (some ⟨bm,0,none⟩) P P),TIs)::(b5,.var (.int .i64 (P:Int)),TInt)::(Dm++(Dc++((b3,.var (.agg #[.int .i64 (n:Int),.slice p (n*n) c]),24)::M))))) ?_ pgs
 repeat (first|refine Qc ?_|refine Qa fun _=>?_|refine w_al fun _=>?_)
 have hser:Ls (Wq 1000000) 4 P U8 ((b11,.var (.slice (some ⟨bc,0,none⟩) P P),35)::(b6,.var (.agg #[.int .i64 0,.slice none 0 0]),37)::(b4,.var (.slice (some pp) np cp),25)::((b10,.var (.slice (some ⟨bm,0,none⟩) P P),TIs)::(b5,.var (.int .i64 (P:Int)),TInt)::(Dm++(Dc++((b3,.var (.agg #[.int .i64 (n:Int),.slice p (n*n) c]),24)::M))))) (.slice (some ⟨bc,0,none⟩) P P) g:=⟨_,_,cs,rfl,Nat.le_refl P,hrow2.at sb,hcs⟩
 refine Qd rfl rfl rfl rfl rfl rfl (fun _=>yR (N:=P) (b:=1000000) (f:=0) ⟨_,rfl,hser.up VM uc sb⟩ (by decide) (by decide) (by decide) (by decide) (by omega)) ?_
 rintro v57 U57 D57 hU57 ⟨s,r,hs,rfl,hvs,rfl⟩
 rw [List.nil_append]
 obtain ⟨_,rfl,hvs⟩:=hvs
 obtain ⟨pv,cv',us,rfl,-⟩:=id hvs
 rw [show (0:Int)+(s:Int)=(s:Int) by omega]
 have hc8:=hcon (tup [.agg #[.int .i64 (s:Int),.slice pv (P - s) cv'],.int .i64 0]) U57 ⟨X,hX,fun _=>⟨s,_,by rw [← hbd]; rw [hg] at hs; exact hs,rfl,⟨_,rfl,by rw [← hbd]; rw [hg] at hvs; exact hvs⟩⟩,fun h=>by rw [← hbd] at h; omega⟩
 repeat (first|refine Qc ?_|refine Qa fun _=>?_|refine w_al fun _=>?_)
 exact Qe [] sym rfl (.cons (.cell 1 rfl rfl rfl) (.cons (.tmp rfl) .nil)) uc sb (.inl rfl) ⟨hc8.1,hc8.2,rfl⟩
end Go.Proofs.YthnnlgjlhnmhnaaGreat

/- Walks of layer 36: Weighted. -/
namespace Go.Hp
variable {P:Program} {T:TT} {K:Kont} {N:Nat} {G:World} {E:Env} {U:UH} {M:MH} {L:List Oper} {l:List Ent} {f:Bool} {i:Nat} {o:Oper}
theorem QaJ {e s bs t ty:Nat} {z:Value} {ti:TI} (hS:TI.ok P e ti) (hts:ti.size=s) (htb:ti.bytes=bs) (htz:ti.zero=z) (ht:P.underlying t=some (.slice e)) (hz:z.cells.toList.length=s) (h0:0 < s)
  {w:World} (hw:Mem G U M w) {a0:Addr} {q:Option Addr} {m c':Nat} {news:List Value} (hm:news.length=m) (hnews:∀ v ∈ news,v.cells.toList.length=s)
  (hq:m≠0→∃ a,q=some a∧∀ j u,(flat news)[j]?=some u→w.cell? (a.add j)=some u) (hbound:m*bs≤140737488355328) (h63:m≤9223372036854775807) :
  ∃ w' D' p' cc,(Builtin.append_ #[t,t] ty #[.slice (some a0) 0 0,.slice q m c']).run P w = .ok (.slice (some p') m cc) w'∧RowO e s D' (some p') m cc news∧Mem G U (D'++M) w':=by
 obtain ⟨inf,_,hi,hiz,hsz,hby⟩:=hS.run_info w
 have hsz':inf.size=s:=by rw [hsz,hts]
 have hby':inf.bytes=bs:=by rw [hby,htb]
 have hiz':inf.zero=some z:=by rw [hiz,htz]
 have hnl:(flat news).length=m*inf.size:=by rw [JE hnews,hm,hsz']
 by_cases hm0:m=0
 ·subst hm0
  have hnil:news=[]:=List.eq_nil_of_length_eq_zero hm
  subst hnil
  refine ⟨w,[],a0,0,?_,RowO.nil,hw⟩
  have hf:(Builtin.firstCells inf.size 0 (.slice q 0 c')).run P w = .ok #[] w:=by
   cases q with
   | none=>simp [Builtin.firstCells]
   | some a=>simp [Builtin.firstCells,loadCells,loadCellsFrom]
  simp [Builtin.append_,Qm ht,sizeOf,typeInfo,hi,Builtin.lenOf,hf,storeCells]
 ·obtain ⟨a,rfl,ha⟩:=hq hm0
  have hneed:((0+m:Nat):Int)≤9223372036854775807:=by omega
  have hg:=yZ (w:=w) (need:=0+m) (old:=0) (e:=e) (by omega)
  have hfitb:=growslice_fits (need:=0+m) (old:=0) (bytes:=inf.bytes) (by omega) (by rw [hby',Nat.zero_add]; exact hbound)
  have hrun:=run_append_grow (P:=P) w t ty e inf z ht hi hiz' a0 0 0 [] (by simp) (by intro j u hu; simp at hu) a m c' (flat news) hnl ha (by omega) hneed hfitb
  simp only [Nat.zero_add] at hrun hg
  refine ⟨_,[(w.heap.size,.arr (news++List.replicate (grownCap w m 0 e - m) z),e)],_,_,hrun,⟨?_,hnews,?_⟩,?_⟩
  ·have:=RowE.row (e:=e) (b:=w.heap.size) (n:=m) (c:=grownCap w m 0 e) (r:=news++List.replicate (grownCap w m 0 e - m) z) (by omega) (by simp only [List.length_append,List.length_replicate,hm]; omega) hg.2
   rwa [List.take_append,List.take_of_length_le (by omega),hm,Nat.sub_self,List.take_zero,List.append_nil] at this
  ·intro k' hk' r hr' v hv
   simp only [List.mem_singleton] at hk'
   subst hk'
   simp only [Blk.arr.injEq] at hr'
   subst hr'
   rcases List.mem_append.1 hv with hv | hv
   ·exact hnews v hv
   ·rw [(List.mem_replicate.1 hv).2]; exact hz
  ·rw [show (([]:List Value).toArray++(flat news).toArray++Builtin.zeroCells z.cells (grownCap w m 0 e - m))=(flat (news++List.replicate (grownCap w m 0 e - m) z)).toArray by rw [qy hz h0]; simp]
   exact (hw.drawn (w.drawn+1)).alloc (.arr (news++List.replicate (grownCap w m 0 e - m) z)) e
theorem yg {d t e s bs bt bt':Nat} {x y:Operand} {z z':Value} {ek:TK} {a0:Addr} {q:Option Addr} {m c':Nat} {us:List Value} (hS:Sym P T) (ho:o.op = .call { callee := .builtin .append,args := #[x,y],argTypes := #[t,t] })
  (hx:ev E x=some (.slice (some a0) 0 0)) (hy:ev E y=some (.slice q m c')) (hT:lkT T t=some ⟨.slice e,bt,bt',z'⟩) (he:lkT T e=some ⟨ek,s,bs,z⟩) (hz:z.cells.toList.length=s) (h0:Nat.blt 0 s=true)
  (hu:RowAt U M s q m us) (hbound:m*bs≤140737488355328) (h63:m≤9223372036854775807)
  (hg:gok L E o.guard=some true) (hd:o.dst=some d) (hN:Nat.blt d N=true)
  (h:∀ p' cc D',RowO e s D' (some p') m cc us→SL P T L K N G l ((d,.slice (some p') m cc)::E) U (D'++M)):SL P T L K N G ((f,i,o)::l) E U M:=by
 have hs0:=Nat.le_of_ble_eq_true h0
 refine .gr (R:=fun v U' D=>∃ p' cc,v = .slice (some p') m cc∧U=U'∧RowO e s D (some p') m cc us) (.inr (by rw [ho]; rfl)) hd hN (fun M2 a w ha hw=>?_) (fun v U' D _ ⟨p',cc,h1,h2,h3⟩=>by subst h1 h2; exact h p' cc D h3)
 obtain ⟨dd,hdd,hkk⟩:=(hS.at hT).und
 have:=QN hkk
 subst this
 have hn:=(hu.up (M':=M2++M) (ULe.refl U) (List.sublist_append_right ..)).news (G:=G) hs0
 obtain ⟨w',D',p',cc,hrun,hrow,hm'⟩:=QaJ (ty:=o.type) (hS.at he) rfl rfl rfl hdd hz hs0 hw (a0:=a0) (c':=c') (q:=q) hu.len hu.size (fun h=>by
  obtain ⟨a0,h1,h2⟩:=hn h
  exact ⟨a0,h1,h2 w hw⟩) hbound h63
 unfold wpV
 rw [QP hg ha,if_pos rfl]
 have hrun2:(execOp a.eval o).run P w = .ok (.value (.slice (some p') m cc)) w':=by
  simp only [execOp,ho,resolve,List.map_toArray,List.map_cons,List.map_nil,ha.eval hx,ha.eval hy,Sem.run_bind,Sem.run_pure,Result.andThen_ok,invoke,builtin,hrun]
 rw [hrun2]
 exact ⟨U,D',ULe.refl U,hm',p',cc,rfl,rfl,hrow⟩
end Go.Hp
namespace Go.Proofs.YthnnlgjlhnmhnaaGreat
open Go.Hp
variable {G:World} {U U':UH} {M:MH}
set_option maxHeartbeats 2000000 in
theorem QaZ {N c np kb B:Nat} {r prec:Int} {p:Option Addr} {vp:Value} {vs:List Value} {f:Nat→Int} {ne:Nat→Nat} {e:Nat→Nat→Int} {qq:Nat→Rat} (rw1:RowAt U [] 1 p N vs) (el:El Vz U vs f) (hN:N≤9223372036854775807) (h64 : -9223372036854775808≤prec∧prec≤9223372036854775807)
  (hpl:Pol kb U M vp np ne e qq) (hnp:np≤9223372036854775807) (hne:∀ i,i < np→ne i≤9223372036854775807) (hb1:1≤kb) (hb2:kb≤100) (hB1:1≤B) (hB:B≤900000) (hS:∀ n P:Nat,r=(n:Int)→chk r N f=0→prec=(P:Int)→P≤1000→Fit np n ne e→WSz n f P B (pex np n e qq)) :
  Ct Tryz.prog 9 [.agg #[.int .i64 r,.slice p N c],vp,.int .i64 prec] G U M fun v U' D=>(chk r N f≠0→v = .tuple #[.agg #[.int .i64 0,.slice none 0 0],.int .i64 (chk r N f)]) ∧
   (∀ n:Nat,r=(n:Int)→chk r N f=0→((prec < 0∨1000 < prec)→v = .tuple #[.agg #[.int .i64 0,.slice none 0 0],.int .i64 2])∧(∀ P:Nat,prec=(P:Int)→P≤1000 →
    (perr n np ne e≠0→v = .tuple #[.agg #[.int .i64 0,.slice none 0 0],.int .i64 (perr n np ne e)])∧(perr n np ne e=0→WgtP n f P (pex np n e qq) U' v)))∧D=[]:=by
 obtain ⟨pp,cp,ms,hpe,hcp,rm,em⟩:=id hpl
 subst hpe
 refine Qh Tryz.func9 rfl rfl rfl rfl ?_
 repeat (first|refine Qc ?_|refine Qa fun _=>?_|refine w_al fun _=>?_)
 rename_i b3 b6
 refine Qd rfl rfl rfl rfl rfl rfl (fun _=>qz (rw1.up uc (List.nil_sublist _)) (el.up KeptC.out uc) hN) ?_
 rintro v1 U1 D hU1 ⟨rfl,-,rfl⟩
 rw [List.nil_append]
 repeat (first|refine Qc ?_|refine Qa fun _=>?_|refine w_al fun _=>?_)
 refine QK rfl (fun h=>?_) (fun h=>?_)
 ·repeat (first|refine Qc ?_|refine Qa fun _=>?_|refine w_al fun _=>?_)
  exact Qe [] sym rfl (.cons (.cell 0 rfl rfl rfl) (.cons (.tmp rfl) .nil)) uc sb (.inl rfl) ⟨fun _=>rfl,fun _ _ h0=>absurd h0 h,rfl⟩
 obtain ⟨n,rfl,hn1,hn8,rfl,hb,he,hp⟩:=Jm h
 rw [h]
 have hone:∀ (v:Value) (U8:UH),((prec < 0∨1000 < prec)→v = .tuple #[.agg #[.int .i64 0,.slice none 0 0],.int .i64 2])→(∀ P:Nat,prec=(P:Int)→P≤1000→(perr n np ne e≠0→v = .tuple #[.agg #[.int .i64 0,.slice none 0 0],.int .i64 (perr n np ne e)])∧(perr n np ne e=0→WgtP n f P (pex np n e qq) U8 v)) →
   ∀ n':Nat,(n:Int)=(n':Int)→(0:Int)=0→((prec < 0∨1000 < prec)→v = .tuple #[.agg #[.int .i64 0,.slice none 0 0],.int .i64 2])∧(∀ P:Nat,prec=(P:Int)→P≤1000→(perr n' np ne e≠0→v = .tuple #[.agg #[.int .i64 0,.slice none 0 0],.int .i64 (perr n' np ne e)])∧(perr n' np ne e=0→WgtP n' f P (pex np n' e qq) U8 v)):=fun v U8 h1 h2 n' e' _=>by
  obtain rfl:n=n':=Int.ofNat.inj e'
  exact ⟨h1,h2⟩
 repeat (first|refine Qc ?_|refine Qa fun _=>?_|refine w_al fun _=>?_)
 refine Qw rfl rfl (fun h1=>?_) (fun h1=>?_)
 ·repeat (first|refine Qc ?_|refine Qa fun _=>?_|refine w_al fun _=>?_)
  exact Qe [] sym rfl (.cons (.cell 0 rfl rfl rfl) (.cons (.tmp rfl) .nil)) uc sb (.inl rfl) ⟨fun h=>absurd rfl h,hone _ _ (fun _=>rfl) (fun P e _=>by omega),rfl⟩
 repeat (first|refine Qc ?_|refine Qa fun _=>?_|refine w_al fun _=>?_)
 refine Qi rfl (fun h2=>?_) (fun h2=>?_)
 ·repeat (first|refine Qc ?_|refine Qa fun _=>?_|refine w_al fun _=>?_)
  exact Qe [] sym rfl (.cons (.cell 0 rfl rfl rfl) (.cons (.tmp rfl) .nil)) uc sb (.inl rfl) ⟨fun h=>absurd rfl h,hone _ _ (fun _=>rfl) (fun P e _=>by omega),rfl⟩
 repeat (first|refine Qc ?_|refine Qa fun _=>?_|refine w_al fun _=>?_)
 refine Qd rfl rfl rfl rfl rfl rfl (fun _=>qV (hpl.up uc sb) hnp hne hn8) ?_
 rintro v2 U2 D2 hU2 ⟨rfl,rfl,rfl⟩
 rw [List.nil_append]
 repeat (first|refine Qc ?_|refine Qa fun _=>?_|refine w_al fun _=>?_)
 refine QK rfl (fun h3=>?_) (fun h3=>?_)
 ·repeat (first|refine Qc ?_|refine Qa fun _=>?_|refine w_al fun _=>?_)
  exact Qe [] sym rfl (.cons (.cell 0 rfl rfl rfl) (.cons (.tmp rfl) .nil)) uc sb (.inl rfl) ⟨fun h=>absurd rfl h,hone _ _ (fun h=>by omega) (fun P _ _=>⟨fun _=>rfl,fun h4=>absurd h4 h3⟩),rfl⟩
 have hf:=VH h3
 have h60:=hf.1
 repeat (first|refine Qc ?_|refine Qa fun _=>?_|refine w_al fun _=>?_)
 refine Qx [5,8,9] [0,2,4,1,3,5,6,7,8,9] sym (by kernel_rfl) ?_
 repeat (first|refine Qc ?_|refine Qa fun _=>?_|refine w_al fun _=>?_)
 refine QJ (vs:=[]) sym rfl rfl rfl rfl rfl rfl (by intro v hv; cases hv) rfl rfl rfl rfl rfl rfl (fun be=>?_)
 repeat (first|refine Qc ?_|refine Qa fun _=>?_|refine w_al fun _=>?_)
 refine yg (us:=ms) sym rfl rfl rfl rfl rfl rfl rfl (rm.up uc sb) (by omega) (by omega) rfl rfl rfl (fun p' cc D' hr=>?_)
 have hpl2:Pol kb U1 (D'++M) (.slice (some p') np cc) np ne e qq:=⟨some p',cc,ms,rfl,hr.len.2.1,hr.at (List.sublist_append_left ..),fun i u hi=>(em i u hi).up uc (List.sublist_append_right _ _)⟩
 refine Qj (M':=(be,.arr [],50)::(b6,.var (.agg #[.int .i64 0,.slice none 0 0]),37)::(b3,.var (.agg #[.int .i64 (n:Int),.slice p (n*n) c]),24)::(D'++M)) ?_ pgs
 repeat (first|refine Qc ?_|refine Qa fun _=>?_|refine w_al fun _=>?_)
 refine Qd rfl rfl rfl rfl rfl rfl (fun _=>vU (rw1.up uc (List.nil_sublist _)) (el.up KeptC.out uc) hb he hp hn1 hn8 h64 (hpl2.up uc sb) hf hb1 hb2 hB1 hB (fun P e1 h8=>hS n P rfl h e1 h8 hf)) ?_
 rintro v3 U3 D3 hU3 ⟨hv1,hv2,rfl⟩
 rw [List.nil_append]
 obtain ⟨F,pk,k,ck,er,rfl⟩:∃ (F:Int) (pk:Option Addr) (k ck:Nat) (er:Int),v3 = .tuple #[.agg #[.int .i64 F,.slice pk k ck],.int .i64 er]:=Qey (hv2 prec.toNat (by omega) (by omega))
 have hc8:=hone (tup [.agg #[.int .i64 F,.slice pk k ck],.int .i64 er]) U3 (fun h=>by omega) (fun P e1 h8=>⟨fun h4=>absurd h3 h4,fun _=>hv2 P e1 h8⟩)
 repeat (first|refine Qc ?_|refine Qa fun _=>?_|refine w_al fun _=>?_)
 exact Qe [] sym rfl (.cons (.cell 1 rfl rfl rfl) (.cons (.tmp rfl) .nil)) uc sb (.inl rfl) ⟨fun h=>absurd rfl h,hc8,rfl⟩
end Go.Proofs.YthnnlgjlhnmhnaaGreat

/- Walks of layer 36: the reference's Weighted, with its errors. -/
namespace Go.Proofs.YthnnlgjlhnmhnaaGreat
open Go.Hp
variable {G:World} {U U':UH} {M:MH}
set_option maxHeartbeats 2000000 in
theorem yu {N c np kb B:Nat} {r prec:Int} {p:Option Addr} {vp:Value} {vs:List Value} {f:Nat→Int} {ne:Nat→Nat} {e:Nat→Nat→Int} {qq:Nat→Rat} (rw1:RowAt U [] 1 p N vs) (el:El Vz U vs f) (hc:N≤c) (hN:N≤9223372036854775807) (h64 : -9223372036854775808≤prec∧prec≤9223372036854775807)
  (hpl:Pol kb U M vp np ne e qq) (hnp:np≤9223372036854775807) (hne:∀ i,i < np→ne i≤9223372036854775807) (hb1:1≤kb) (hb2:kb≤100) (hB1:1≤B) (hB:B≤900000) (hS:∀ n P:Nat,r=(n:Int)→chk r N f=0→prec=(P:Int)→P≤1000→Fit np n ne e→WSz n f P B (pex np n e qq)) :
  Ct Tryz.prog 10 [.agg #[.int .i64 r,.slice p N c],vp,.int .i64 prec] G U M fun v U' D=>(chk r N f≠0→v = .tuple #[.agg #[.int .i64 0,.slice none 0 0],.int .i64 (chk r N f)]) ∧
   (∀ n:Nat,r=(n:Int)→chk r N f=0→((prec < 0∨1000 < prec)→v = .tuple #[.agg #[.int .i64 0,.slice none 0 0],.int .i64 2])∧(∀ P:Nat,prec=(P:Int)→P≤1000 →
    (perr n np ne e≠0→v = .tuple #[.agg #[.int .i64 0,.slice none 0 0],.int .i64 (perr n np ne e)])∧(perr n np ne e=0→WgtP n f P (pex np n e qq) U' v)))∧D=[]:=by
 by_cases hall:∃ n:Nat,r=(n:Int)∧chk r N f=0∧perr n np ne e=0
 ·obtain ⟨n,rfl,h1,h2⟩:=hall
  obtain ⟨n',e1,hn1,hn8,rfl,hb,he,hp⟩:=Jm h1
  obtain rfl:n=n':=Int.ofNat.inj e1
  refine (yN rw1 el hc h1 h64 hpl (VH h2) hb1 (by omega) hB1 (by omega) fun P e2 e3=>hS n P rfl h1 e2 e3 (VH h2)).mono fun v U' D _ ⟨k1,k2,k3⟩=>⟨fun h=>absurd h1 h,fun n' e4 _=>?_,k3⟩
  obtain rfl:n=n':=Int.ofNat.inj e4
  exact ⟨k1,fun P e5 e6=>⟨fun h=>absurd h2 h,fun _=>k2 P e5 e6⟩⟩
 obtain ⟨pp,cp,ms,hpe,hcp,rm,em⟩:=id hpl
 subst hpe
 refine Qh Tryz.func10 rfl rfl rfl rfl ?_
 repeat (first|refine Qc ?_|refine Qa fun _=>?_|refine w_al fun _=>?_)
 rename_i b3 b6
 refine Qd rfl rfl rfl rfl rfl rfl (fun _=>Ve (rw1.up uc (List.nil_sublist _)) (el.up KeptC.out uc) hc hN) ?_
 rintro v1 U1 D hU1 ⟨rfl,-,rfl⟩
 rw [List.nil_append]
 repeat (first|refine Qc ?_|refine Qa fun _=>?_|refine w_al fun _=>?_)
 refine QK rfl (fun h=>?_) (fun h=>?_)
 ·repeat (first|refine Qc ?_|refine Qa fun _=>?_|refine w_al fun _=>?_)
  exact Qe [] sym rfl (.cons (.cell 0 rfl rfl rfl) (.cons (.tmp rfl) .nil)) uc sb (.inl rfl) ⟨fun _=>rfl,fun _ _ h0=>absurd h0 h,rfl⟩
 obtain ⟨n,rfl,hn1,hn8,rfl,hb,he,hp⟩:=Jm h
 have hpe:perr n np ne e≠0:=fun h2=>hall ⟨n,rfl,h,h2⟩
 rw [h]
 have hone:∀ (v:Value) (U8:UH),((prec < 0∨1000 < prec)→v = .tuple #[.agg #[.int .i64 0,.slice none 0 0],.int .i64 2])→(∀ P:Nat,prec=(P:Int)→P≤1000→v = .tuple #[.agg #[.int .i64 0,.slice none 0 0],.int .i64 (perr n np ne e)]) →
   ∀ n':Nat,(n:Int)=(n':Int)→(0:Int)=0→((prec < 0∨1000 < prec)→v = .tuple #[.agg #[.int .i64 0,.slice none 0 0],.int .i64 2])∧(∀ P:Nat,prec=(P:Int)→P≤1000→(perr n' np ne e≠0→v = .tuple #[.agg #[.int .i64 0,.slice none 0 0],.int .i64 (perr n' np ne e)])∧(perr n' np ne e=0→WgtP n' f P (pex np n' e qq) U8 v)):=fun v U8 h1 h2 n' e' _=>by
  obtain rfl:n=n':=Int.ofNat.inj e'
  exact ⟨h1,fun P e1 e2=>⟨fun _=>h2 P e1 e2,fun h3=>absurd h3 hpe⟩⟩
 repeat (first|refine Qc ?_|refine Qa fun _=>?_|refine w_al fun _=>?_)
 refine Qw rfl rfl (fun h1=>?_) (fun h1=>?_)
 ·repeat (first|refine Qc ?_|refine Qa fun _=>?_|refine w_al fun _=>?_)
  exact Qe [] sym rfl (.cons (.cell 0 rfl rfl rfl) (.cons (.tmp rfl) .nil)) uc sb (.inl rfl) ⟨fun h=>absurd rfl h,hone _ _ (fun _=>rfl) (fun P e _=>by omega),rfl⟩
 repeat (first|refine Qc ?_|refine Qa fun _=>?_|refine w_al fun _=>?_)
 refine Qi rfl (fun h2=>?_) (fun h2=>?_)
 ·repeat (first|refine Qc ?_|refine Qa fun _=>?_|refine w_al fun _=>?_)
  exact Qe [] sym rfl (.cons (.cell 0 rfl rfl rfl) (.cons (.tmp rfl) .nil)) uc sb (.inl rfl) ⟨fun h=>absurd rfl h,hone _ _ (fun _=>rfl) (fun P e _=>by omega),rfl⟩
 repeat (first|refine Qc ?_|refine Qa fun _=>?_|refine w_al fun _=>?_)
 refine Qd rfl rfl rfl rfl rfl rfl (fun _=>vB (hpl.up uc sb) hnp hne hn8) ?_
 rintro v2 U2 D2 hU2 ⟨rfl,rfl,rfl⟩
 rw [List.nil_append]
 repeat (first|refine Qc ?_|refine Qa fun _=>?_|refine w_al fun _=>?_)
 refine QK rfl (fun h3=>?_) (fun h3=>absurd h3 hpe)
 repeat (first|refine Qc ?_|refine Qa fun _=>?_|refine w_al fun _=>?_)
 exact Qe [] sym rfl (.cons (.cell 0 rfl rfl rfl) (.cons (.tmp rfl) .nil)) uc sb (.inl rfl) ⟨fun h=>absurd rfl h,hone _ _ (fun h=>by omega) (fun P _ _=>rfl),rfl⟩
end Go.Proofs.YthnnlgjlhnmhnaaGreat
