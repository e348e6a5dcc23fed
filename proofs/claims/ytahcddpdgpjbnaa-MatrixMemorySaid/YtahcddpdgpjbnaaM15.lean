/- Texts of this seat's own, merged: each begins with its own remark. -/
import Derived.Test.YtahcddpdgpjbnaaM18
import Derived.Test.YtahcddpdgpjbnaaM10
import Derived.Test.YtahcddpdgpjbnaaM7
import Derived.Test.YtahcddpdgpjbnaaM4
import Derived.Test.YtahcddpdgpjbnaaM2
import Derived.Test.YtahcddpdgpjbnaaM14
/- Are two integers the same, digit by digit: the reference's Same, the helpers' SameInt. -/
namespace Go.Proofs.Ytahcddpdgpjbnaa
open Go.Hp
variable {G:World} {U:UH} {M:MH}
theorem ju {x y:IV} {l1 l:List Nat} (hd1:Dig U M x.p x.n x.c l1) (hd:Dig U M y.p y.n y.c l) :
  Ct Try.prog 40 [x.v,y.v] G U M fun v U' D=>v = .bool (decide (x.neg=y.neg∧l1=l))∧U=U'∧D=[]:=by
 obtain ⟨neg,p,n,c⟩:=y
 obtain ⟨neg1,p1,n1,c1⟩:=x
 simp only at hd hd1 ⊢
 have hl:=hd.len
 have hl1:=hd1.len
 have h3:=hd.cap
 have h4:=hd.capm
 change Ct _ _ [Value.agg #[.bool neg1,.slice p1 n1 c1],Value.agg #[.bool neg,.slice p n c]] G U M _
 refine Qf Try.func40 rfl rfl rfl rfl ?_
 repeat (first|refine Qc ?_|refine Qb fun _=>?_|refine w_al fun _=>?_)
 rename_i b2 b3
 refine QdO rfl rfl (fun h5=>?_) (fun h5=>?_)
 ·have hne:neg1≠neg:=fun e=>by rw [e] at h5; simp at h5
  repeat (first|refine Qc ?_|refine Qb fun _=>?_|refine w_al fun _=>?_)
  exact Qe [] sym rfl (.cons (.tmp rfl) .nil) (ULe.refl _) sb (.inl rfl) ⟨Yv (fun h=>hne h.1),rfl,rfl⟩
 have hnn:neg1=neg:=by cases neg1<;>cases neg<;>simp at h5 ⊢
 repeat (first|refine Qc ?_|refine Qb fun _=>?_|refine w_al fun _=>?_)
 refine JU rfl (fun h6=>?_) (fun h6=>?_)
 ·repeat (first|refine Qc ?_|refine Qb fun _=>?_|refine w_al fun _=>?_)
  exact Qe [] sym rfl (.cons (.tmp rfl) .nil) (ULe.refl _) sb (.inl rfl) ⟨Yv (fun h=>h6 (by rw [← hl,← hl1,h.2])),rfl,rfl⟩
 have hn:n1=n:=by omega
 subst hn
 repeat (first|refine Qc ?_|refine Qb fun _=>?_|refine w_al fun _=>?_)
 refine Qm (fun m E U' M'=>∃ (i:Nat),i≤n1∧l1.take i=l.take i∧E=[(5,.int .i64 (i:Int)),(2,.pointer (some ⟨b2,0,none⟩)),(3,.pointer (some ⟨b3,0,none⟩))]∧U=U' ∧
   M'=(b3,.var (.agg #[.bool neg,.slice p n1 c]),39)::(b2,.var (.agg #[.bool neg1,.slice p1 n1 c1]),39)::M∧m=n1 - i) (n0:=n1)
  (E0:=[(5,.int .i64 ((0:Nat):Int)),(2,.pointer (some ⟨b2,0,none⟩)),(3,.pointer (some ⟨b3,0,none⟩))]) ⟨rfl,rfl,rfl,trivial⟩ ⟨0,by omega,rfl,rfl,rfl,rfl,rfl⟩ ?_
 rintro m E U' M' ⟨i,hi,ht,rfl,rfl,rfl,rfl⟩
 try refine Qa ?_
 refine Qk rfl (fun h5=>?_) (fun h5=>?_)
 ·obtain ⟨d,hdd,hbd,hp1,hc1⟩:=(hd1.up (U':=U) (ULe.refl _) (M':=(b3,.var (.agg #[.bool neg,.slice p n1 c]),39)::(b2,.var (.agg #[.bool neg1,.slice p1 n1 c1]),39)::M) sb).get (k:=i) (by omega)
  obtain ⟨d2,hdd2,hbd2,hp2,hc2⟩:=(hd.up (U':=U) (ULe.refl _) (M':=(b3,.var (.agg #[.bool neg,.slice p n1 c]),39)::(b2,.var (.agg #[.bool neg1,.slice p1 n1 c1]),39)::M) sb).get (k:=i) (by omega)
  try refine Qa ?_
  refine Qq [0,1,2,3,4,5,6,7,8,9,10] sym (by kernel_rfl) ?_
  try refine Qa ?_
  refine sl_y (Qo sym rfl rfl rfl rfl rfl rfl (by omega) hp1) rfl rfl rfl rfl ?_; refine sl_y (Qr sym rfl rfl rfl rfl hc1) rfl rfl rfl rfl ?_
  try refine Qa ?_
  refine sl_y (Qo sym rfl rfl rfl rfl rfl rfl (by omega) hp2) rfl rfl rfl rfl ?_; refine sl_y (Qr sym rfl rfl rfl rfl hc2) rfl rfl rfl rfl ?_
  try refine Qa ?_
  refine JU rfl (fun h7=>?_) (fun h7=>?_)
  ·have hne:l1≠l:=fun e=>h7 (by rw [e,hdd2] at hdd; cases hdd; rfl)
   try refine Qa ?_
   exact Qe [] sym rfl (.cons (.tmp rfl) .nil) (ULe.refl _) sb (.inl rfl) ⟨Yv (fun h=>hne h.2),rfl,rfl⟩
  have hdd3:d=d2:=by omega
  subst hdd3
  try refine Qa ?_
  exact Qi (E':=[(5,.int .i64 ((i:Int)+1)),(2,.pointer (some ⟨b2,0,none⟩)),(3,.pointer (some ⟨b3,0,none⟩))]) (m:=n1 - (i+1)) ⟨rfl,rfl,rfl,trivial⟩ (by omega) ⟨i+1,by omega,by rw [List.take_add_one,List.take_add_one,ht,hdd,hdd2],rfl,rfl,rfl,rfl⟩
 ·have hll:l1=l:=by rwa [List.take_of_length_le (by omega),List.take_of_length_le (by omega)] at ht
  try refine Qa ?_
  exact Qe [] sym rfl (.cons (.tmp rfl) .nil) (ULe.refl _) sb (.inl rfl) ⟨QdS ⟨hnn,hll⟩,rfl,rfl⟩
theorem vd {x y:IV} {z w:Int} (hx:x.nrm U M z) (hy:y.nrm U M w) :
  Ct Try.prog 40 [x.v,y.v] G U M fun v U' D=>v = .bool (decide (z=w))∧U=U'∧D=[]:=by
 obtain ⟨l1,hd1,hc1,hv1,hn1⟩:=hx
 obtain ⟨l,hd,hc,hv,hn⟩:=hy
 refine (ju hd1 hd).mono ?_
 rintro v U' D hU ⟨rfl,rfl,rfl⟩
 refine ⟨congrArg Value.bool (decide_eq_decide.2 ⟨fun ⟨h1,h2⟩=>?_,fun h=>?_⟩),rfl,rfl⟩
 ·subst h2
  have h3:z.natAbs=w.natAbs:=by rw [← hv1,← hv]
  rw [hn1,hn] at h1
  have:=decide_eq_decide.1 h1
  omega
 ·subst h
  exact ⟨by rw [hn1,hn],hc1.inj hc (by rw [hv1,hv])⟩
end Go.Proofs.Ytahcddpdgpjbnaa

/- Walks of the reference of layer 2: fractions in lowest terms, conversions, signs. -/
namespace Go.Proofs.Ytahcddpdgpjbnaa
open Go.Hp
variable {G:World} {U:UH} {M:MH}
end Go.Proofs.Ytahcddpdgpjbnaa

/- Walks of the reference of layer 2: sums, products, quotients, comparison, digits, neighboring integers. -/
namespace Go.Proofs.Ytahcddpdgpjbnaa
open Go.Hp
variable {G:World} {U:UH} {M:MH}
end Go.Proofs.Ytahcddpdgpjbnaa
