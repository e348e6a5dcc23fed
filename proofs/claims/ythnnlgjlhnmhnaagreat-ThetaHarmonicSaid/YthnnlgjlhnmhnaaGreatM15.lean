/- Texts of this seat's own, merged: each begins with its own remark. -/
import Derived.Test.YthnnlgjlhnmhnaaGreatM18
import Derived.Test.YthnnlgjlhnmhnaaGreatM10
import Derived.Test.YthnnlgjlhnmhnaaGreatM8
import Derived.Test.YthnnlgjlhnmhnaaGreatM5
import Derived.Test.YthnnlgjlhnmhnaaGreatM7
import Derived.Test.YthnnlgjlhnmhnaaGreatM14
/- Are two integers the same, digit by digit: the reference's Same, the helpers' SameInt. -/
namespace Go.Proofs.YthnnlgjlhnmhnaaGreat
open Go.Hp
variable {G:World} {U:UH} {M:MH}
theorem QgJ {x y:IV} {l1 l:List Nat} (hd1:Dig U M x.p x.n x.c l1) (hd:Dig U M y.p y.n y.c l) :
  Ct Tryz.prog 105 [x.v,y.v] G U M fun v U' D=>v = .bool (decide (x.neg=y.neg∧l1=l))∧U=U'∧D=[]:=by
 obtain ⟨neg,p,n,c⟩:=y
 obtain ⟨neg1,p1,n1,c1⟩:=x
 simp only at hd hd1 ⊢
 have hl:=hd.len
 have hl1:=hd1.len
 have h3:=hd.cap
 have h4:=hd.capm
 change Ct _ _ [Value.agg #[.bool neg1,.slice p1 n1 c1],Value.agg #[.bool neg,.slice p n c]] G U M _
 refine Qh Tryz.func105 rfl rfl rfl rfl ?_
 repeat (first|refine Qc ?_|refine Qa fun _=>?_|refine w_al fun _=>?_)
 rename_i b2 b3
 refine Qgn rfl rfl (fun h5=>?_) (fun h5=>?_)
 ·have hne:neg1≠neg:=fun e=>by rw [e] at h5; simp at h5
  repeat (first|refine Qc ?_|refine Qa fun _=>?_|refine w_al fun _=>?_)
  exact Qe [] sym rfl (.cons (.tmp rfl) .nil) (ULe.refl _) sb (.inl rfl) ⟨VX (fun h=>hne h.1),rfl,rfl⟩
 have hnn:neg1=neg:=by cases neg1<;>cases neg<;>simp at h5 ⊢
 repeat (first|refine Qc ?_|refine Qa fun _=>?_|refine w_al fun _=>?_)
 refine QK rfl (fun h6=>?_) (fun h6=>?_)
 ·repeat (first|refine Qc ?_|refine Qa fun _=>?_|refine w_al fun _=>?_)
  exact Qe [] sym rfl (.cons (.tmp rfl) .nil) (ULe.refl _) sb (.inl rfl) ⟨VX (fun h=>h6 (by rw [← hl,← hl1,h.2])),rfl,rfl⟩
 have hn:n1=n:=by omega
 subst hn
 repeat (first|refine Qc ?_|refine Qa fun _=>?_|refine w_al fun _=>?_)
 refine Ql (fun m E U' M'=>∃ (i:Nat),i≤n1∧l1.take i=l.take i∧E=[(5,.int .i64 (i:Int)),(2,.pointer (some ⟨b2,0,none⟩)),(3,.pointer (some ⟨b3,0,none⟩))]∧U=U' ∧
   M'=(b3,.var (.agg #[.bool neg,.slice p n1 c]),46)::(b2,.var (.agg #[.bool neg1,.slice p1 n1 c1]),46)::M∧m=n1 - i) (n0:=n1)
  (E0:=[(5,.int .i64 ((0:Nat):Int)),(2,.pointer (some ⟨b2,0,none⟩)),(3,.pointer (some ⟨b3,0,none⟩))]) ⟨rfl,rfl,rfl,trivial⟩ ⟨0,by omega,rfl,rfl,rfl,rfl,rfl⟩ ?_
 rintro m E U' M' ⟨i,hi,ht,rfl,rfl,rfl,rfl⟩
 try refine Qb ?_
 refine Qi rfl (fun h5=>?_) (fun h5=>?_)
 ·obtain ⟨d,hdd,hbd,hp1,hc1⟩:=(hd1.up (U':=U) (ULe.refl _) (M':=(b3,.var (.agg #[.bool neg,.slice p n1 c]),46)::(b2,.var (.agg #[.bool neg1,.slice p1 n1 c1]),46)::M) sb).get (k:=i) (by omega)
  obtain ⟨d2,hdd2,hbd2,hp2,hc2⟩:=(hd.up (U':=U) (ULe.refl _) (M':=(b3,.var (.agg #[.bool neg,.slice p n1 c]),46)::(b2,.var (.agg #[.bool neg1,.slice p1 n1 c1]),46)::M) sb).get (k:=i) (by omega)
  try refine Qb ?_
  refine Qt [0,1,2,3,4,5,6,7,8,9,10] sym (by kernel_rfl) ?_
  try refine Qb ?_
  refine sl_y (Qr sym rfl rfl rfl rfl rfl rfl (by omega) hp1) rfl rfl rfl rfl ?_; refine sl_y (Qv sym rfl rfl rfl rfl hc1) rfl rfl rfl rfl ?_
  try refine Qb ?_
  refine sl_y (Qr sym rfl rfl rfl rfl rfl rfl (by omega) hp2) rfl rfl rfl rfl ?_; refine sl_y (Qv sym rfl rfl rfl rfl hc2) rfl rfl rfl rfl ?_
  try refine Qb ?_
  refine QK rfl (fun h7=>?_) (fun h7=>?_)
  ·have hne:l1≠l:=fun e=>h7 (by rw [e,hdd2] at hdd; cases hdd; rfl)
   try refine Qb ?_
   exact Qe [] sym rfl (.cons (.tmp rfl) .nil) (ULe.refl _) sb (.inl rfl) ⟨VX (fun h=>hne h.2),rfl,rfl⟩
  have hdd3:d=d2:=by omega
  subst hdd3
  try refine Qb ?_
  exact Qg (E':=[(5,.int .i64 ((i:Int)+1)),(2,.pointer (some ⟨b2,0,none⟩)),(3,.pointer (some ⟨b3,0,none⟩))]) (m:=n1 - (i+1)) ⟨rfl,rfl,rfl,trivial⟩ (by omega) ⟨i+1,by omega,by rw [List.take_add_one,List.take_add_one,ht,hdd,hdd2],rfl,rfl,rfl,rfl⟩
 ·have hll:l1=l:=by rwa [List.take_of_length_le (by omega),List.take_of_length_le (by omega)] at ht
  try refine Qb ?_
  exact Qe [] sym rfl (.cons (.tmp rfl) .nil) (ULe.refl _) sb (.inl rfl) ⟨QgW ⟨hnn,hll⟩,rfl,rfl⟩
theorem QgL {x y:IV} {z w:Int} (hx:x.nrm U M z) (hy:y.nrm U M w) :
  Ct Tryz.prog 105 [x.v,y.v] G U M fun v U' D=>v = .bool (decide (z=w))∧U=U'∧D=[]:=by
 obtain ⟨l1,hd1,hc1,hv1,hn1⟩:=hx
 obtain ⟨l,hd,hc,hv,hn⟩:=hy
 refine (QgJ hd1 hd).mono ?_
 rintro v U' D hU ⟨rfl,rfl,rfl⟩
 refine ⟨congrArg Value.bool (decide_eq_decide.2 ⟨fun ⟨h1,h2⟩=>?_,fun h=>?_⟩),rfl,rfl⟩
 ·subst h2
  have h3:z.natAbs=w.natAbs:=by rw [← hv1,← hv]
  rw [hn1,hn] at h1
  have:=decide_eq_decide.1 h1
  omega
 ·subst h
  exact ⟨by rw [hn1,hn],hc1.inj hc (by rw [hv1,hv])⟩
theorem QfJ {x y:IV} {l1 l:List Nat} (hd1:Dig U M x.p x.n x.c l1) (hd:Dig U M y.p y.n y.c l) :
  Ct Tryz.prog 119 [x.v,y.v] G U M fun v U' D=>v = .bool (decide (x.neg=y.neg∧l1=l))∧U=U'∧D=[]:=by
 obtain ⟨neg,p,n,c⟩:=y
 obtain ⟨neg1,p1,n1,c1⟩:=x
 simp only at hd hd1 ⊢
 have hl:=hd.len
 have hl1:=hd1.len
 have h3:=hd.cap
 have h4:=hd.capm
 change Ct _ _ [Value.agg #[.bool neg1,.slice p1 n1 c1],Value.agg #[.bool neg,.slice p n c]] G U M _
 refine Qh Tryz.func119 rfl rfl rfl rfl ?_
 repeat (first|refine Qc ?_|refine Qa fun _=>?_|refine w_al fun _=>?_)
 rename_i b2 b3
 refine Qgn rfl rfl (fun h5=>?_) (fun h5=>?_)
 ·have hne:neg1≠neg:=fun e=>by rw [e] at h5; simp at h5
  repeat (first|refine Qc ?_|refine Qa fun _=>?_|refine w_al fun _=>?_)
  exact Qe [] sym rfl (.cons (.tmp rfl) .nil) (ULe.refl _) sb (.inl rfl) ⟨VX (fun h=>hne h.1),rfl,rfl⟩
 have hnn:neg1=neg:=by cases neg1<;>cases neg<;>simp at h5 ⊢
 repeat (first|refine Qc ?_|refine Qa fun _=>?_|refine w_al fun _=>?_)
 refine QK rfl (fun h6=>?_) (fun h6=>?_)
 ·repeat (first|refine Qc ?_|refine Qa fun _=>?_|refine w_al fun _=>?_)
  exact Qe [] sym rfl (.cons (.tmp rfl) .nil) (ULe.refl _) sb (.inl rfl) ⟨VX (fun h=>h6 (by rw [← hl,← hl1,h.2])),rfl,rfl⟩
 have hn:n1=n:=by omega
 subst hn
 repeat (first|refine Qc ?_|refine Qa fun _=>?_|refine w_al fun _=>?_)
 refine Ql (fun m E U' M'=>∃ (i:Nat),i≤n1∧l1.take i=l.take i∧E=[(5,.int .i64 (i:Int)),(2,.pointer (some ⟨b2,0,none⟩)),(3,.pointer (some ⟨b3,0,none⟩))]∧U=U' ∧
   M'=(b3,.var (.agg #[.bool neg,.slice p n1 c]),46)::(b2,.var (.agg #[.bool neg1,.slice p1 n1 c1]),46)::M∧m=n1 - i) (n0:=n1)
  (E0:=[(5,.int .i64 ((0:Nat):Int)),(2,.pointer (some ⟨b2,0,none⟩)),(3,.pointer (some ⟨b3,0,none⟩))]) ⟨rfl,rfl,rfl,trivial⟩ ⟨0,by omega,rfl,rfl,rfl,rfl,rfl⟩ ?_
 rintro m E U' M' ⟨i,hi,ht,rfl,rfl,rfl,rfl⟩
 try refine Qb ?_
 refine Qi rfl (fun h5=>?_) (fun h5=>?_)
 ·obtain ⟨d,hdd,hbd,hp1,hc1⟩:=(hd1.up (U':=U) (ULe.refl _) (M':=(b3,.var (.agg #[.bool neg,.slice p n1 c]),46)::(b2,.var (.agg #[.bool neg1,.slice p1 n1 c1]),46)::M) sb).get (k:=i) (by omega)
  obtain ⟨d2,hdd2,hbd2,hp2,hc2⟩:=(hd.up (U':=U) (ULe.refl _) (M':=(b3,.var (.agg #[.bool neg,.slice p n1 c]),46)::(b2,.var (.agg #[.bool neg1,.slice p1 n1 c1]),46)::M) sb).get (k:=i) (by omega)
  try refine Qb ?_
  refine Qt [0,1,2,3,4,5,6,7,8,9,10] sym (by kernel_rfl) ?_
  try refine Qb ?_
  refine sl_y (Qr sym rfl rfl rfl rfl rfl rfl (by omega) hp1) rfl rfl rfl rfl ?_; refine sl_y (Qv sym rfl rfl rfl rfl hc1) rfl rfl rfl rfl ?_
  try refine Qb ?_
  refine sl_y (Qr sym rfl rfl rfl rfl rfl rfl (by omega) hp2) rfl rfl rfl rfl ?_; refine sl_y (Qv sym rfl rfl rfl rfl hc2) rfl rfl rfl rfl ?_
  try refine Qb ?_
  refine QK rfl (fun h7=>?_) (fun h7=>?_)
  ·have hne:l1≠l:=fun e=>h7 (by rw [e,hdd2] at hdd; cases hdd; rfl)
   try refine Qb ?_
   exact Qe [] sym rfl (.cons (.tmp rfl) .nil) (ULe.refl _) sb (.inl rfl) ⟨VX (fun h=>hne h.2),rfl,rfl⟩
  have hdd3:d=d2:=by omega
  subst hdd3
  try refine Qb ?_
  exact Qg (E':=[(5,.int .i64 ((i:Int)+1)),(2,.pointer (some ⟨b2,0,none⟩)),(3,.pointer (some ⟨b3,0,none⟩))]) (m:=n1 - (i+1)) ⟨rfl,rfl,rfl,trivial⟩ (by omega) ⟨i+1,by omega,by rw [List.take_add_one,List.take_add_one,ht,hdd,hdd2],rfl,rfl,rfl,rfl⟩
 ·have hll:l1=l:=by rwa [List.take_of_length_le (by omega),List.take_of_length_le (by omega)] at ht
  try refine Qb ?_
  exact Qe [] sym rfl (.cons (.tmp rfl) .nil) (ULe.refl _) sb (.inl rfl) ⟨QgW ⟨hnn,hll⟩,rfl,rfl⟩
theorem Qby {x y:IV} {z w:Int} (hx:x.nrm U M z) (hy:y.nrm U M w) :
  Ct Tryz.prog 119 [x.v,y.v] G U M fun v U' D=>v = .bool (decide (z=w))∧U=U'∧D=[]:=by
 obtain ⟨l1,hd1,hc1,hv1,hn1⟩:=hx
 obtain ⟨l,hd,hc,hv,hn⟩:=hy
 refine (QfJ hd1 hd).mono ?_
 rintro v U' D hU ⟨rfl,rfl,rfl⟩
 refine ⟨congrArg Value.bool (decide_eq_decide.2 ⟨fun ⟨h1,h2⟩=>?_,fun h=>?_⟩),rfl,rfl⟩
 ·subst h2
  have h3:z.natAbs=w.natAbs:=by rw [← hv1,← hv]
  rw [hn1,hn] at h1
  have:=decide_eq_decide.1 h1
  omega
 ·subst h
  exact ⟨by rw [hn1,hn],hc1.inj hc (by rw [hv1,hv])⟩
end Go.Proofs.YthnnlgjlhnmhnaaGreat

/- Walks of the reference of layer 2: fractions in lowest terms, conversions, signs. -/
namespace Go.Proofs.YthnnlgjlhnmhnaaGreat
open Go.Hp
variable {G:World} {U:UH} {M:MH}
theorem Qhr {z:Int} (h0 : -9223372036854775808≤z) (h1:z≤9223372036854775807) :
  Ct Tryz.prog 103 [.int .i64 z] G U M fun v U' D=>∃ r:QV,v=r.v∧r.nrm U' [] (z:Rat)∧D=[]:=by
 refine Qh Tryz.func103 rfl rfl rfl rfl ?_
 repeat (first|refine Qc ?_|refine Qa fun _=>?_|refine w_al fun _=>?_)
 refine Qd rfl rfl rfl rfl rfl rfl (fun _=>(jK h0 h1).settle) ?_
 rintro v Uh2 D hU ⟨rfl,_,_,⟨xh2,rfl,h2,-⟩,-,-,hs⟩
 replace h2:=h2.sett hs
 clear hs
 repeat (first|refine Qc ?_|refine Qa fun _=>?_|refine w_al fun _=>?_)
 refine Qd rfl rfl rfl rfl rfl rfl (fun _=>(jK (z:=1) (by decide) (by decide)).settle) ?_
 rintro v Uh3 D hU ⟨rfl,_,_,⟨xh3,rfl,h3,-⟩,-,-,hs⟩
 replace h3:=h3.sett hs
 clear hs
 repeat (first|refine Qc ?_|refine Qa fun _=>?_|refine w_al fun _=>?_)
 exact Qe [] sym rfl (.cons (.cell 0 rfl rfl rfl) .nil) uc sb (.inl rfl) ⟨⟨xh2,xh3⟩,rfl,⟨h2.up uc sb,h3⟩,rfl⟩
theorem VG {x y:IV} {n d:Int} (hx:x.rep U M n) (hn:x.n≤137438953472) (hy:y.rep U M d) (hn':y.n≤137438953472) :
  Ct Tryz.prog 62 [x.v,y.v] G U M fun v U' D=>∃ r:QV,v=r.v∧r.nrm U' [] (Rat.divInt n d)∧D=[]:=by
 have sx:=(hx.sz (Nat.le_refl _)).mono hn
 have sy:=(hy.sz (Nat.le_refl _)).mono hn'
 refine Qh Tryz.func62 rfl rfl rfl rfl ?_
 repeat (first|refine Qc ?_|refine Qa fun _=>?_|refine w_al fun _=>?_)
 rename_i b2 b3 b4
 refine Qd rfl rfl rfl rfl rfl rfl (fun _=>YU (hy.up uc sb) (by omega)) ?_
 rintro v U' D hU ⟨rfl,rfl,rfl⟩
 repeat (first|refine Qc ?_|refine Qa fun _=>?_|refine w_al fun _=>?_)
 refine JQ rfl (fun h1=>?_) (fun h1=>?_)
 ·obtain rfl:=Int.sign_eq_zero_iff_zero.1 h1
  repeat (first|refine Qc ?_|refine Qa fun _=>?_|refine w_al fun _=>?_)
  refine Qd rfl rfl rfl rfl rfl rfl (fun _=>Qhr (z:=0) (by decide) (by decide)) ?_
  rintro v Uh2 D hU ⟨xh2,rfl,h2,rfl⟩
  repeat (first|refine Qc ?_|refine Qa fun _=>?_|refine w_al fun _=>?_)
  rw [Rat.divInt_zero]
  exact Qe [] sym rfl (.cons (.cell 0 rfl rfl rfl) .nil) uc sb (.inl rfl) ⟨xh2,rfl,h2,rfl⟩
 have hd:d≠0:=fun e=>h1 (by rw [e]; rfl)
 have hg0:0 < (Int.gcd n d:Int):=by
  have:=Int.gcd_pos_of_ne_zero_right n (b:=d) hd
  omega
 repeat (first|refine Qc ?_|refine Qa fun _=>?_|refine w_al fun _=>?_)
 refine Qd rfl rfl rfl rfl rfl rfl (fun _=>(Qif (hx.up uc sb) (by omega) (hy.up uc sb) (by omega)).settle) ?_
 rintro v Uhg D hU ⟨rfl,_,_,⟨xhg,rfl,hg,-⟩,-,-,hs⟩
 replace hg:=hg.sett hs
 clear hs
 repeat (first|refine Ji ?_|refine Qa fun _=>?_|refine w_al fun _=>?_)
 rename_i b5
 have sg:Sz (Int.gcd n d:Int) 137438953472:=sx.gcd sy
 refine Qo (fun E U' M'=>∃ (g:Int) (w:IV),w.nrm U' [] g∧g≠0∧Sz g 137438953472∧(Rat.divInt n d).num=n / g∧((Rat.divInt n d).den:Int)=d / g ∧
  E=[(2,.pointer (some ⟨b2,0,none⟩)),(3,.pointer (some ⟨b3,0,none⟩)),(4,.pointer (some ⟨b4,0,none⟩)),(5,.pointer (some ⟨b5,0,none⟩))]∧ULe U U' ∧
  M'=(b5,.var w.v,46)::(b4,.var zeroQV.v,48)::(b3,.var y.v,46)::(b2,.var x.v,46)::M) ?_ ?_
 ·try refine Qb ?_
  refine Qd rfl rfl rfl rfl rfl rfl (fun _=>YU (hy.up uc sb) (by omega)) ?_
  rintro v U' D hU ⟨rfl,rfl,rfl⟩
  repeat (first|refine Qc ?_|refine Qa fun _=>?_|refine w_al fun _=>?_)
  refine Qi rfl (fun h2=>?_) (fun h2=>?_)
  ·have hlt:d < 0:=by
    rcases Int.lt_trichotomy d 0 with h | h | h
    ·exact h
    ·exact absurd h hd
    ·rw [Int.sign_eq_one_of_pos h] at h2; omega
   obtain ⟨q1,q2⟩:=QfU (n:=n) hlt
   repeat (first|refine Qc ?_|refine Qa fun _=>?_|refine w_al fun _=>?_)
   refine Qd rfl rfl rfl rfl rfl rfl (fun _=>(yy (hg.rep.up uc sb) (hg.le (sg) (by omega))).settle) ?_
   rintro v Uh3 D hU ⟨rfl,_,_,⟨xh3,rfl,h3,-⟩,-,-,hs⟩
   replace h3:=h3.sett hs
   clear hs
   repeat (first|refine Qc ?_|refine Qa fun _=>?_|refine w_al fun _=>?_)
   exact Qn (E':=[(2,.pointer (some ⟨b2,0,none⟩)),(3,.pointer (some ⟨b3,0,none⟩)),(4,.pointer (some ⟨b4,0,none⟩)),(5,.pointer (some ⟨b5,0,none⟩))]) ⟨rfl,rfl,rfl,rfl,trivial⟩ ⟨_,xh3,h3,by omega,sg.neg,q1,q2,rfl,uc,rfl⟩
  ·have hlt:0 < d:=by
    rcases Int.lt_trichotomy d 0 with h | h | h
    ·rw [Int.sign_eq_neg_one_of_neg h] at h2; omega
    ·exact absurd h hd
    ·exact h
   obtain ⟨q1,q2⟩:=VE (n:=n) hlt
   repeat (first|refine Qc ?_|refine Qa fun _=>?_|refine w_al fun _=>?_)
   exact Qn (E':=[(2,.pointer (some ⟨b2,0,none⟩)),(3,.pointer (some ⟨b3,0,none⟩)),(4,.pointer (some ⟨b4,0,none⟩)),(5,.pointer (some ⟨b5,0,none⟩))]) ⟨rfl,rfl,rfl,rfl,trivial⟩ ⟨_,xhg,hg,by omega,sg,q1,q2,rfl,uc,rfl⟩
 ·clear hg hg0 sg
  rintro E U' M' ⟨g,w,hg,hg0,sg,q1,q2,rfl,hU2,rfl⟩
  try refine Qb ?_
  refine Qt [0,1,2] sym (by kernel_rfl) ?_
  repeat (first|refine Qc ?_|refine Qa fun _=>?_|refine w_al fun _=>?_)
  refine Qd rfl rfl rfl rfl rfl rfl (fun _=>(jK (z:=1) (by decide) (by decide)).settle) ?_
  rintro v Uh3 D hU ⟨rfl,_,_,⟨xh3,rfl,h3,-⟩,-,-,hs⟩
  replace h3:=h3.sett hs
  clear hs
  repeat (first|refine Qc ?_|refine Qa fun _=>?_|refine w_al fun _=>?_)
  refine Qd rfl rfl rfl rfl rfl rfl (fun _=>QgL (hg.up uc sb) (h3.up uc sb)) ?_
  rintro v U' D hU ⟨rfl,rfl,rfl⟩
  repeat (first|refine Qc ?_|refine Qa fun _=>?_|refine w_al fun _=>?_)
  by_cases hg1:g=1
  ·rw [decide_eq_true hg1]
   rw [hg1] at q1 q2
   simp at q1 q2
   repeat (first|refine Qc ?_|refine Qa fun _=>?_|refine w_al fun _=>?_)
   refine Qt [0,2,1,3,4,5] sym (by kernel_rfl) ?_
   repeat (first|refine Qc ?_|refine Qa fun _=>?_|refine w_al fun _=>?_)
   refine Qd rfl rfl rfl rfl rfl rfl (fun _=>(YN (hx.up uc sb) (by omega)).settle) ?_
   rintro v Uh4 D hU ⟨rfl,_,_,⟨xh4,rfl,h4,-⟩,-,-,hs⟩
   replace h4:=h4.sett hs
   clear hs
   repeat (first|refine Qc ?_|refine Qa fun _=>?_|refine w_al fun _=>?_)
   refine Qd rfl rfl rfl rfl rfl rfl (fun _=>(YN (hy.up uc sb) (by omega)).settle) ?_
   rintro v Uh5 D hU ⟨rfl,_,_,⟨xh5,rfl,h5,-⟩,-,-,hs⟩
   replace h5:=h5.sett hs
   clear hs
   repeat (first|refine Qc ?_|refine Qa fun _=>?_|refine w_al fun _=>?_)
   exact Qe [] sym rfl (.cons (.cell 1 rfl rfl rfl) .nil) uc sb (.inl rfl) ⟨⟨xh4,xh5⟩,rfl,⟨by rw [q1]; exact h4.up uc sb,by rw [q2]; exact h5⟩,rfl⟩
  ·rw [decide_eq_false hg1]
   repeat (first|refine Qc ?_|refine Qa fun _=>?_|refine w_al fun _=>?_)
   refine Qt [0,1,3,4,2,5,6,7] sym (by kernel_rfl) ?_
   repeat (first|refine Qc ?_|refine Qa fun _=>?_|refine w_al fun _=>?_)
   refine Qd rfl rfl rfl rfl rfl rfl (fun _=>(Vo (hx.up uc sb) (by omega) (hg.rep.up uc sb) (hg.le (sg) (by omega)) hg0).settle) ?_
   rintro v Uh4 D hU ⟨rfl,_,_,⟨xh4,rfl,h4,-⟩,-,-,hs⟩
   replace h4:=h4.sett hs
   clear hs
   repeat (first|refine Qc ?_|refine Qa fun _=>?_|refine w_al fun _=>?_)
   refine Qd rfl rfl rfl rfl rfl rfl (fun _=>(Vo (hy.up uc sb) (by omega) (hg.rep.up uc sb) (hg.le (sg) (by omega)) hg0).settle) ?_
   rintro v Uh5 D hU ⟨rfl,_,_,⟨xh5,rfl,h5,-⟩,-,-,hs⟩
   replace h5:=h5.sett hs
   clear hs
   repeat (first|refine Qc ?_|refine Qa fun _=>?_|refine w_al fun _=>?_)
   exact Qe [] sym rfl (.cons (.cell 1 rfl rfl rfl) .nil) uc sb (.inl rfl) ⟨⟨xh4,xh5⟩,rfl,⟨by rw [q1]; exact h4.up uc sb,by rw [q2]; exact h5⟩,rfl⟩
theorem YF {x:QV} {q:Rat} (hx:x.rep U M q) (hn:x.le 137438953472) :
  Ct Tryz.prog 74 [x.v] G U M fun v U' D=>∃ r:QV,v=r.v∧r.nrm U' [] q∧D=[]:=by
 obtain ⟨n,d,h1,h2,rfl⟩:=hx
 refine Qh Tryz.func74 rfl rfl rfl rfl ?_
 repeat (first|refine Qc ?_|refine Qa fun _=>?_|refine w_al fun _=>?_)
 refine Qd rfl rfl rfl rfl rfl rfl (fun _=>VG (h1.up uc sb) (by omega) (h2.up uc sb) (by omega)) ?_
 rintro v Uh3 D hU ⟨xh3,rfl,h3,rfl⟩
 repeat (first|refine Qc ?_|refine Qa fun _=>?_|refine w_al fun _=>?_)
 exact Qe [] sym rfl (.cons (.cell 0 rfl rfl rfl) .nil) uc sb (.inl rfl) ⟨xh3,rfl,h3,rfl⟩
theorem Qer {x:QV} {q:Rat} (hx:x.rep U M q) (hn:x.le 274877906944) :
  Ct Tryz.prog 61 [x.v] G U M fun v U' D=>v = .int .i64 q.num.sign∧U=U'∧D=[]:=by
 obtain ⟨n,d,h1,h2,rfl⟩:=hx
 refine Qh Tryz.func61 rfl rfl rfl rfl ?_
 repeat (first|refine Qc ?_|refine Qa fun _=>?_|refine w_al fun _=>?_)
 refine Qt [0,1,3,4,2,5,6,7] sym (by kernel_rfl) ?_
 repeat (first|refine Qc ?_|refine Qa fun _=>?_|refine w_al fun _=>?_)
 refine Qd rfl rfl rfl rfl rfl rfl (fun _=>YU (h1.up uc sb) (by omega)) ?_
 rintro v U' D hU ⟨rfl,rfl,rfl⟩
 repeat (first|refine Qc ?_|refine Qa fun _=>?_|refine w_al fun _=>?_)
 refine Qd rfl rfl rfl rfl rfl rfl (fun _=>YU (h2.up uc sb) (by omega)) ?_
 rintro v U' D hU ⟨rfl,rfl,rfl⟩
 repeat (first|refine Qc ?_|refine Qa fun _=>?_|refine w_al fun _=>?_)
 have e:IntKind.i64.wrap (n.sign*d.sign)=(Rat.divInt n d).num.sign:=by
  rw [Qay]
  rcases Int.lt_trichotomy n 0 with h | h | h<;>rcases Int.lt_trichotomy d 0 with h' | h' | h' <;>
   first | (rw [Int.sign_eq_neg_one_of_neg h]) | (rw [Int.sign_eq_one_of_pos h]) | (rw [h])
  all_goals first | (rw [Int.sign_eq_neg_one_of_neg h']) | (rw [Int.sign_eq_one_of_pos h']) | (rw [h'])
  all_goals decide
 rw [← e]
 exact Qe [] sym rfl (.cons (.tmp rfl) .nil) uc sb (.inl rfl) ⟨rfl,rfl,rfl⟩
end Go.Proofs.YthnnlgjlhnmhnaaGreat

/- Walks of the reference of layer 2: sums, products, quotients, comparison, digits, neighboring integers. -/
namespace Go.Proofs.YthnnlgjlhnmhnaaGreat
open Go.Hp
variable {G:World} {U:UH} {M:MH}
theorem yP {x y:QV} {p q:Rat} (hx:x.rep U M p) (hn:x.le 34359738368) (hy:y.rep U M q) (hn':y.le 34359738368) :
  Ct Tryz.prog 37 [x.v,y.v] G U M fun v U' D=>∃ r:QV,v=r.v∧r.nrm U' [] (p+q)∧D=[]:=by
 have s1:=hx.sz hn (by omega)
 have s2:=hy.sz hn' (by omega)
 refine Qh Tryz.func37 rfl rfl rfl rfl ?_
 repeat (first|refine Qc ?_|refine Qa fun _=>?_|refine w_al fun _=>?_)
 refine Qt [0,2,1,3,4,5,6,7] sym (by kernel_rfl) ?_
 repeat (first|refine Qc ?_|refine Qa fun _=>?_|refine w_al fun _=>?_)
 refine Qd rfl rfl rfl rfl rfl rfl (fun _=>YF (hx.up uc sb) (by omega)) ?_
 rintro v Uh1 D hU ⟨xh1,rfl,h1,rfl⟩
 repeat (first|refine Qc ?_|refine Qa fun _=>?_|refine w_al fun _=>?_)
 refine Qd rfl rfl rfl rfl rfl rfl (fun _=>YF (hy.up uc sb) (by omega)) ?_
 rintro v Uh2 D hU ⟨xh2,rfl,h2,rfl⟩
 repeat (first|refine Qc ?_|refine Qa fun _=>?_|refine w_al fun _=>?_)
 refine Qt [0,1,2,3,5,6,7,8,11,12,13,14,4,9,10,15,16,17] sym (by kernel_rfl) ?_
 repeat (first|refine Qc ?_|refine Qa fun _=>?_|refine w_al fun _=>?_)
 refine Qd rfl rfl rfl rfl rfl rfl (fun _=>(Yo (h1.1.rep.up uc sb) (h1.1.le s1.1 (by omega)) (h2.2.rep.up uc sb) (h2.2.le s2.2 (by omega))).settle) ?_
 rintro v Uh3 D hU ⟨rfl,_,_,⟨xh3,rfl,h3,-⟩,-,-,hs⟩
 replace h3:=h3.sett hs
 clear hs
 repeat (first|refine Qc ?_|refine Qa fun _=>?_|refine w_al fun _=>?_)
 refine Qd rfl rfl rfl rfl rfl rfl (fun _=>(Yo (h2.1.rep.up uc sb) (h2.1.le s2.1 (by omega)) (h1.2.rep.up uc sb) (h1.2.le s1.2 (by omega))).settle) ?_
 rintro v Uh4 D hU ⟨rfl,_,_,⟨xh4,rfl,h4,-⟩,-,-,hs⟩
 replace h4:=h4.sett hs
 clear hs
 repeat (first|refine Qc ?_|refine Qa fun _=>?_|refine w_al fun _=>?_)
 refine Qd rfl rfl rfl rfl rfl rfl (fun _=>(QaL (h3.rep.up uc sb) (h3.le (s1.1.mul s2.2) (by omega)) (h4.rep.up uc sb) (h4.le (s2.1.mul s1.2) (by omega))).settle) ?_
 rintro v Uh5 D hU ⟨rfl,_,_,⟨xh5,rfl,h5,-⟩,-,-,hs⟩
 replace h5:=h5.sett hs
 clear hs
 repeat (first|refine Qc ?_|refine Qa fun _=>?_|refine w_al fun _=>?_)
 refine Qd rfl rfl rfl rfl rfl rfl (fun _=>(Yo (h1.2.rep.up uc sb) (h1.2.le s1.2 (by omega)) (h2.2.rep.up uc sb) (h2.2.le s2.2 (by omega))).settle) ?_
 rintro v Uh6 D hU ⟨rfl,_,_,⟨xh6,rfl,h6,-⟩,-,-,hs⟩
 replace h6:=h6.sett hs
 clear hs
 repeat (first|refine Qc ?_|refine Qa fun _=>?_|refine w_al fun _=>?_)
 refine Qd rfl rfl rfl rfl rfl rfl (fun _=>VG (h5.rep.up uc sb) (h5.le ((s1.1.mul s2.2).add (s2.1.mul s1.2)) (by omega)) (h6.rep.up uc sb) (h6.le (s1.2.mul s2.2) (by omega))) ?_
 rintro v Uh7 D hU ⟨xh7,rfl,h7,rfl⟩
 repeat (first|refine Qc ?_|refine Qa fun _=>?_|refine w_al fun _=>?_)
 rw [← Qdd] at h7
 exact Qe [] sym rfl (.cons (.cell 2 rfl rfl rfl) .nil) uc sb (.inl rfl) ⟨xh7,rfl,h7,rfl⟩
theorem jD {x y:QV} {p q:Rat} (hx:x.rep U M p) (hn:x.le 34359738368) (hy:y.rep U M q) (hn':y.le 34359738368) :
  Ct Tryz.prog 29 [x.v,y.v] G U M fun v U' D=>∃ r:QV,v=r.v∧r.nrm U' [] (p*q)∧D=[]:=by
 obtain ⟨n1,d1,h1,h2,rfl⟩:=hx
 obtain ⟨n2,d2,h3,h4,rfl⟩:=hy
 have s1:=(h1.sz (Nat.le_refl _)).mono hn.1
 have s2:=(h2.sz (Nat.le_refl _)).mono hn.2
 have s3:=(h3.sz (Nat.le_refl _)).mono hn'.1
 have s4:=(h4.sz (Nat.le_refl _)).mono hn'.2
 refine Qh Tryz.func29 rfl rfl rfl rfl ?_
 repeat (first|refine Qc ?_|refine Qa fun _=>?_|refine w_al fun _=>?_)
 refine Qt [0,1,2,3,5,6,7,8,4,9,10,11] sym (by kernel_rfl) ?_
 repeat (first|refine Qc ?_|refine Qa fun _=>?_|refine w_al fun _=>?_)
 refine Qd rfl rfl rfl rfl rfl rfl (fun _=>(Yo (h1.up uc sb) (by omega) (h3.up uc sb) (by omega)).settle) ?_
 rintro v Uh5 D hU ⟨rfl,_,_,⟨xh5,rfl,h5,-⟩,-,-,hs⟩
 replace h5:=h5.sett hs
 clear hs
 repeat (first|refine Qc ?_|refine Qa fun _=>?_|refine w_al fun _=>?_)
 refine Qd rfl rfl rfl rfl rfl rfl (fun _=>(Yo (h2.up uc sb) (by omega) (h4.up uc sb) (by omega)).settle) ?_
 rintro v Uh6 D hU ⟨rfl,_,_,⟨xh6,rfl,h6,-⟩,-,-,hs⟩
 replace h6:=h6.sett hs
 clear hs
 repeat (first|refine Qc ?_|refine Qa fun _=>?_|refine w_al fun _=>?_)
 refine Qd rfl rfl rfl rfl rfl rfl (fun _=>VG (h5.rep.up uc sb) (h5.le (s1.mul s3) (by omega)) (h6.rep.up uc sb) (h6.le (s2.mul s4) (by omega))) ?_
 rintro v Uh7 D hU ⟨xh7,rfl,h7,rfl⟩
 repeat (first|refine Qc ?_|refine Qa fun _=>?_|refine w_al fun _=>?_)
 rw [← Rat.divInt_mul_divInt] at h7
 exact Qe [] sym rfl (.cons (.cell 0 rfl rfl rfl) .nil) uc sb (.inl rfl) ⟨xh7,rfl,h7,rfl⟩
theorem QcA {x:QV} {q:Rat} (hx:x.rep U M q) (hn:x.le 137438953472) :
  Ct Tryz.prog 73 [x.v] G U M fun v U' D=>∃ r:IV,v=r.v∧r.nrm U' [] q.floor∧D=[]:=by
 have s1:=hx.sz hn (by omega)
 have hd:=qo q
 refine Qh Tryz.func73 rfl rfl rfl rfl ?_
 repeat (first|refine Qc ?_|refine Qa fun _=>?_|refine w_al fun _=>?_)
 refine Qd rfl rfl rfl rfl rfl rfl (fun _=>YF (hx.up uc sb) (by omega)) ?_
 rintro v Uh1 D hU ⟨xh1,rfl,h1,rfl⟩
 repeat (first|refine Qc ?_|refine Qa fun _=>?_|refine w_al fun _=>?_)
 refine Qd rfl rfl rfl rfl rfl rfl (fun _=>(Vo (h1.1.rep.up uc sb) (h1.1.le s1.1 (by omega)) (h1.2.rep.up uc sb) (h1.2.le s1.2 (by omega)) (by omega)).settle) ?_
 rintro v Uh2 D hU ⟨rfl,_,_,⟨xh2,rfl,h2,-⟩,-,-,hs⟩
 replace h2:=h2.sett hs
 clear hs
 repeat (first|refine Qc ?_|refine Qa fun _=>?_|refine w_al fun _=>?_)
 rw [← Rat.floor_def] at h2
 exact Qe [] sym rfl (.cons (.cell 1 rfl rfl rfl) .nil) uc sb (.inl rfl) ⟨xh2,rfl,h2,rfl⟩
end Go.Proofs.YthnnlgjlhnmhnaaGreat
