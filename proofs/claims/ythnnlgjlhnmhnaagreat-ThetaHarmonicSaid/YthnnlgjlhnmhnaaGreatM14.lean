/- Texts of this seat's own, merged: each begins with its own remark. -/
import Derived.Test.YthnnlgjlhnmhnaaGreatM18
import Derived.Test.YthnnlgjlhnmhnaaGreatM4
import Derived.Test.YthnnlgjlhnmhnaaGreatM6
/- Walks of rational: is it one; a fraction in lowest terms. -/
namespace Go.Proofs.YthnnlgjlhnmhnaaGreat
open Go.Hp
variable {G:World} {U:UH} {M:MH}
theorem Qgm {x:IV} {z:Int} (cn:Bool) (hx:x.rep U M z) (hcn:cn=true→x.nrm U M z) :
  Ct Tryz.prog 56 [x.v] G U M fun v _ D=>∃ b:Bool,v = .bool b∧(b=true→z=1)∧(cn=true→b=decide (z=1))∧D=[]:=by
 obtain ⟨neg,p,n,c⟩:=x
 obtain ⟨l,hd,hz⟩:=hx
 have hlen:=hd.len
 simp only at hd hlen hz
 change Ct _ _ [Value.agg #[.bool neg,.slice p n c]] G U M _
 refine Qh Tryz.func56 rfl rfl rfl rfl ?_
 repeat (first|refine Qc ?_|refine Qa fun _=>?_|refine w_al fun _=>?_)
 rename_i b1
 refine Qw rfl rfl (fun h1=>?_) (fun h1=>?_)
 ·have hn1:n=1:=by omega
  subst hn1
  obtain ⟨d,hdd,hbd,hp,hc⟩:=(hd.up (U':=U) (ULe.refl _) (M':=(b1,.var (.agg #[.bool neg,.slice p 1 c]),46)::M) sb).get (k:=0) (by omega)
  have hl:l=[d]:=by
   obtain ⟨a,r,rfl⟩:=List.exists_cons_of_ne_nil (l:=l) (fun e=>by subst e; simp at hlen)
   have hr:r=[]:=List.eq_nil_of_length_eq_zero (by simpa using hlen)
   subst hr
   simp at hdd; rw [hdd]
  have hv:val l=d:=by rw [hl]; simp [val]
  rw [hv] at hz
  try refine Qb ?_
  refine sl_y (Qr (j:=0) sym rfl rfl rfl rfl rfl rfl (by omega) hp) rfl rfl rfl rfl ?_
  refine sl_y (Qv sym rfl rfl rfl rfl hc) rfl rfl rfl rfl ?_
  try refine Qb ?_
  refine Qw rfl rfl (fun h2=>?_) (fun h2=>?_)
  ·have hd1:d=1:=by omega
   subst hd1
   try refine Qb ?_
   cases neg
   ·exact Qe [] sym rfl (.cons (.tmp rfl) .nil) uc sb (.inl rfl) ⟨true,rfl,fun _=>by rw [hz]; rfl,fun _=>by rw [hz]; rfl,rfl⟩
   ·exact Qe [] sym rfl (.cons (.tmp rfl) .nil) uc sb (.inl rfl) ⟨false,rfl,(fun h=>by cases h),fun _=>by rw [hz]; rfl,rfl⟩
  ·have hne:z≠1:=fun e=>by
    rw [e] at hz
    clear h1
    cases neg
    ·exact h2 hz.symm
    ·simp [sg] at hz; omega
   try refine Qb ?_
   exact Qe [] sym rfl (.cons (.tmp rfl) .nil) uc sb (.inl rfl) ⟨false,rfl,(fun h=>by cases h),fun _=>(decide_eq_false hne).symm,rfl⟩
 ·try refine Qb ?_
  refine Qe [] sym rfl (.cons (.tmp rfl) .nil) uc sb (.inl rfl) ⟨false,rfl,(fun h=>by cases h),fun hN=>?_,rfl⟩
  refine (decide_eq_false (fun e=>h1 ?_)).symm
  obtain ⟨l',hd',hc',hv',-⟩:=hcn hN
  have:l'=[1]:=hc'.inj (QaM (by decide) (by decide)) (by rw [hv',e]; rfl)
  have:=hd'.len
  simp only at this
  subst l'
  simp at this
  omega
theorem Qhc {x:IV} {z:Int} (hx:x.rep U M z) :
  Ct Tryz.prog 56 [x.v] G U M fun v _ D=>∃ b:Bool,v = .bool b∧(b=true→z=1)∧D=[] :=
 (Qgm false hx (fun h=>by cases h)).mono fun _ _ _ _ ⟨b,h1,h2,_,h3⟩=>⟨b,h1,h2,h3⟩
theorem Qfs {x:IV} {z:Int} (hx:x.nrm U M z) :
  Ct Tryz.prog 56 [x.v] G U M fun v U' D=>v = .bool (decide (z=1))∧ULe U U'∧D=[] :=
 (Qgm true hx.rep (fun _=>hx)).mono fun _ _ _ hU ⟨b,h1,_,h2,h3⟩=>⟨by rw [h1,h2 rfl],hU,h3⟩
theorem jz {x y:IV} {n d:Int} (hx:x.rep U M n) (hn:x.n≤274877906944) (hy:y.rep U M d) (hn':y.n≤274877906944) :
  Ct Tryz.prog 58 [x.v,y.v] G U M fun v U' D=>∃ r:QV,v=r.v∧r.own D (Rat.divInt n d)∧ULe U U':=by
 have sx:=(hx.sz (Nat.le_refl _)).mono hn
 have sy:=(hy.sz (Nat.le_refl _)).mono hn'
 refine Qh Tryz.func58 rfl rfl rfl rfl ?_
 repeat (first|refine Qc ?_|refine Qa fun _=>?_|refine w_al fun _=>?_)
 rename_i b2 b3 b4
 refine Qt [0,2,1,3,4,5] sym (by kernel_rfl) ?_
 repeat (first|refine Qc ?_|refine Qa fun _=>?_|refine w_al fun _=>?_)
 refine Qd rfl rfl rfl rfl rfl rfl (fun _=>jU (hx.up uc sb) (by omega)) ?_
 rintro v Uh1 Dh1 hU ⟨xh1,rfl,h1,-⟩
 refine Qj ?_ (perm3 (D:=Dh1))
 repeat (first|refine Qc ?_|refine Qa fun _=>?_|refine w_al fun _=>?_)
 refine Qd rfl rfl rfl rfl rfl rfl (fun _=>jU (hy.up uc sb) (by omega)) ?_
 rintro v Uh2 Dh2 hU ⟨xh2,rfl,h2,-⟩
 refine Qj ?_ (perm3 (D:=Dh2))
 repeat (first|refine Ji ?_|refine Qa fun _=>?_|refine w_al fun _=>?_)
 refine Qo (fun E U' M'=>∃ (u w:IV) (n' d':Int) (Dn Dd X:MH),u.own Dn n'∧w.own Dd d'∧0 < d'∧Sz n' 274877906944∧Sz d' 274877906944∧Rat.divInt n d=Rat.divInt n' d'∧M.Sublist X ∧
  E=[(2,.pointer (some ⟨b2,0,none⟩)),(3,.pointer (some ⟨b3,0,none⟩)),(4,.pointer (some ⟨b4,0,none⟩))]∧ULe U U'∧M'=(b4,.var zeroQV.v,48)::(b3,.var w.v,46)::(b2,.var u.v,46)::(Dd++(Dn++X))) ?_ ?_
 ·have h2c:=h2
  obtain ⟨neg2,p2,n2,c2⟩:=xh2
  obtain ⟨l2,ho2,hc2,hv2,hneg2⟩:=h2c
  have h1c:=h1
  obtain ⟨neg1,p1,n1,c1⟩:=xh1
  obtain ⟨l1,ho1,hc1,hv1,hneg1⟩:=h1c
  simp only at ho1 ho2 hneg1 hneg2
  have hl1:=ho1.len
  have hl2:=ho2.len
  try refine Qb ?_
  refine Qw rfl rfl (fun h3=>?_) (fun h3=>?_)<;>simp only at h3
  ·have hd0:d=0:=by
    have:l2=[]:=List.eq_nil_of_length_eq_zero (by omega)
    rw [this] at hv2
    simp [val] at hv2
    omega
   repeat (first|refine Qc ?_|refine Qa fun _=>?_|refine w_al fun _=>?_)
   refine Qd rfl rfl rfl rfl rfl rfl (fun _=>VY (z:=1) (by decide) (by decide)) ?_
   rintro v Uh4 Dh4 hU ⟨xh4,rfl,h4,-⟩
   refine Qj ?_ (perm3 (D:=Dh4))
   repeat (first|refine Qc ?_|refine Qa fun _=>?_|refine w_al fun _=>?_)
   exact Qe Dh4 sym rfl (.cons (.cell 0 rfl rfl rfl) .nil) uc sb (.inl rfl) ⟨⟨zeroIV0,xh4⟩,rfl,by rw [hd0,Rat.divInt_zero]; exact ⟨[],Dh4,by simp,yn,h4⟩,uc⟩
  ·try refine Qb ?_
   refine JQ rfl (fun h4=>?_) (fun h4=>?_)<;>simp only at h4
   ·have hn0:n=0:=by
     have:l1=[]:=List.eq_nil_of_length_eq_zero (by omega)
     rw [this] at hv1
     simp [val] at hv1
     omega
    repeat (first|refine Qc ?_|refine Qa fun _=>?_|refine w_al fun _=>?_)
    refine Qd rfl rfl rfl rfl rfl rfl (fun _=>VY (z:=1) (by decide) (by decide)) ?_
    rintro v Uh5 Dh5 hU ⟨xh5,rfl,h5,-⟩
    refine Qj ?_ (perm3 (D:=Dh5))
    repeat (first|refine Qc ?_|refine Qa fun _=>?_|refine w_al fun _=>?_)
    exact Qe Dh5 sym rfl (.cons (.cell 0 rfl rfl rfl) .nil) uc sb (.inl rfl) ⟨⟨zeroIV0,xh5⟩,rfl,by rw [hn0,Rat.zero_divInt]; exact ⟨[],Dh5,by simp,yn,h5⟩,uc⟩
   ·have hd0:d≠0:=fun e=>h3 (by
     rw [e] at hv2
     have:=(hc2.zero).1 hv2
     rw [this] at hl2
     simp at hl2; omega)
    try refine Qb ?_
    refine Qdt rfl (fun h5=>?_) (fun h5=>?_)<;>simp only at h5
    ·have hlt:d < 0:=by rw [h5] at hneg2; exact of_decide_eq_true hneg2.symm
     try refine Qb ?_
     refine Qt [0,2,1,3,4,5] sym (by kernel_rfl) ?_
     repeat (first|refine Qc ?_|refine Qa fun _=>?_|refine w_al fun _=>?_)
     refine Qd rfl rfl rfl rfl rfl rfl (fun _=>QcT (h1.at sb).rep (h1.le sx (by omega))) ?_
     rintro v Uh6 Dh6 hU ⟨xh6,rfl,h6,-⟩
     refine Qj ?_ (perm3 (D:=Dh6))
     repeat (first|refine Qc ?_|refine Qa fun _=>?_|refine w_al fun _=>?_)
     refine Qd rfl rfl rfl rfl rfl rfl (fun _=>QcT (h2.at sb).rep (h2.le sy (by omega))) ?_
     rintro v Uh7 Dh7 hU ⟨xh7,rfl,h7,-⟩
     refine Qj ?_ (perm3 (D:=Dh7))
     repeat (first|refine Qc ?_|refine Qa fun _=>?_|refine w_al fun _=>?_)
     refine Qn (E':=[(2,.pointer (some ⟨b2,0,none⟩)),(3,.pointer (some ⟨b3,0,none⟩)),(4,.pointer (some ⟨b4,0,none⟩))]) ⟨rfl,rfl,rfl,trivial⟩ ⟨xh6,xh7,-n,-d,Dh6,Dh7,Dh2++(Dh1++M),h6,h7,by omega,sx.neg,sy.neg,(Rat.neg_divInt_neg n d).symm,sb,rfl,uc,rfl⟩
    ·have hlt:0 < d:=by
      rw [h5] at hneg2
      have:=of_decide_eq_false hneg2.symm
      omega
     try refine Qb ?_
     refine Qn (E':=[(2,.pointer (some ⟨b2,0,none⟩)),(3,.pointer (some ⟨b3,0,none⟩)),(4,.pointer (some ⟨b4,0,none⟩))]) ⟨rfl,rfl,rfl,trivial⟩ ⟨_,_,n,d,Dh1,Dh2,M,h1,h2,hlt,sx,sy,rfl,sb,rfl,uc,rfl⟩
 ·clear h1 h2 sx sy hx hy
  rintro E U' M' ⟨u,w,n',d',Dn,Dd,X,h1,h2,hd0,sx,sy,hq,hX,rfl,hU2,rfl⟩
  rw [hq]
  obtain ⟨q1,q2⟩:=VE (n:=n') hd0
  repeat (first|refine Qc ?_|refine Qa fun _=>?_|refine w_al fun _=>?_)
  refine Qd rfl rfl rfl rfl rfl rfl (fun _=>Qfs (h2.at sb)) ?_
  rintro v U3 D hU ⟨rfl,-,rfl⟩
  by_cases hd1:d'=1
  ·rw [decide_eq_true hd1]
   rw [hd1,Int.gcd_one] at q1 q2
   simp at q1 q2
   rw [hd1] at h2 ⊢
   repeat (first|refine Qc ?_|refine Qa fun _=>?_|refine w_al fun _=>?_)
   refine Qe (Dd++Dn) sym rfl (.cons (.cell 0 rfl rfl rfl) .nil) uc ?_ (.inl rfl) ⟨⟨u,w⟩,rfl,.mk (by rw [q1]; exact h1) (by rw [q2]; exact h2),uc⟩
   rw [List.append_assoc]
   exact .cons _ (.cons _ (.cons _ (List.Sublist.append (List.Sublist.refl _) (List.Sublist.append (List.Sublist.refl _) hX))))
  ·rw [decide_eq_false hd1]
   repeat (first|refine Qc ?_|refine Qa fun _=>?_|refine w_al fun _=>?_)
   refine Qd rfl rfl rfl rfl rfl rfl (fun _=>(Qgv (h1.at sb).rep (h1.le sx (by omega)) (h2.at sb).rep (h2.le sy (by omega))).settle) ?_
   rintro v Uhg D hU ⟨rfl,_,_,⟨xhg,rfl,hg,-⟩,-,-,hs⟩
   replace hg:=hg.sett hs
   clear hs
   repeat (first|refine Qc ?_|refine Qa fun _=>?_|refine w_al fun _=>?_)
   have sg:Sz (Int.gcd n' d':Int) 274877906944:=sx.gcd sy
   have hg0:(Int.gcd n' d':Int)≠0:=by
    have:=Int.gcd_pos_of_ne_zero_right n' (b:=d') (by omega)
    omega
   refine Qd rfl rfl rfl rfl rfl rfl (fun _=>Qfs (hg.up uc sb)) ?_
   rintro v U4 D hU ⟨rfl,-,rfl⟩
   by_cases hg1:(Int.gcd n' d':Int)=1
   ·rw [decide_eq_true hg1]
    rw [hg1] at q1 q2
    simp at q1 q2
    repeat (first|refine Qc ?_|refine Qa fun _=>?_|refine w_al fun _=>?_)
    refine Qe (Dd++Dn) sym rfl (.cons (.cell 1 rfl rfl rfl) .nil) uc ?_ (.inl rfl) ⟨⟨u,w⟩,rfl,.mk (by rw [q1]; exact h1) (by rw [q2]; exact h2),uc⟩
    rw [List.append_assoc]
    exact .cons _ (.cons _ (.cons _ (.cons _ (List.Sublist.append (List.Sublist.refl _) (List.Sublist.append (List.Sublist.refl _) hX)))))
   ·rw [decide_eq_false hg1]
    repeat (first|refine Qc ?_|refine Qa fun _=>?_|refine w_al fun _=>?_)
    refine Qd rfl rfl rfl rfl rfl rfl (fun _=>vc (h1.at sb).rep (h1.le sx (by omega)) (hg.rep.up uc sb) (hg.le (sg) (by omega))) ?_
    rintro v U5 D5 hU ⟨r5,e5,rfl,-,-,hx5,-⟩
    obtain ⟨rfl,h5⟩:=hx5 hg0 (Int.emod_eq_zero_of_dvd (Int.gcd_dvd_left n' d'))
    refine Qj ?_ (perm4 (D:=D5))
    repeat (first|refine Qc ?_|refine Qa fun _=>?_|refine w_al fun _=>?_)
    refine Qd rfl rfl rfl rfl rfl rfl (fun _=>vc (h2.at sb).rep (h2.le sy (by omega)) (hg.rep.up uc sb) (hg.le (sg) (by omega))) ?_
    rintro v U6 D6 hU ⟨r6,e6,rfl,-,-,hx6,-⟩
    obtain ⟨rfl,h6⟩:=hx6 hg0 (Int.emod_eq_zero_of_dvd (Int.gcd_dvd_right n' d'))
    refine Qj ?_ (perm4 (D:=D6))
    repeat (first|refine Qc ?_|refine Qa fun _=>?_|refine w_al fun _=>?_)
    refine Qe (D6++D5) sym rfl (.cons (.cell 1 rfl rfl rfl) .nil) uc ?_ (.inl rfl) ⟨⟨r5,r6⟩,rfl,.mk (by rw [q1]; exact h5) (by rw [q2]; exact h6),uc⟩
    rw [List.append_assoc]
    exact .cons _ (.cons _ (.cons _ (.cons _ (List.Sublist.append (List.Sublist.refl _) (List.Sublist.append (List.Sublist.refl _) (JA (JA hX)))))))
end Go.Proofs.YthnnlgjlhnmhnaaGreat

/- Walks of rational: conversions, signs, sums, products, quotients. -/
namespace Go.Proofs.YthnnlgjlhnmhnaaGreat
open Go.Hp
variable {G:World} {U:UH} {M:MH}
theorem Ys {x:QV} {q:Rat} (hx:x.rep U M q) (hn:x.le 274877906944) :
  Ct Tryz.prog 46 [x.v] G U M fun v U' D=>∃ r:QV,v=r.v∧r.own D q∧ULe U U':=by
 obtain ⟨n,d,h1,h2,rfl⟩:=hx
 refine Qh Tryz.func46 rfl rfl rfl rfl ?_
 repeat (first|refine Qc ?_|refine Qa fun _=>?_|refine w_al fun _=>?_)
 refine Qd rfl rfl rfl rfl rfl rfl (fun _=>jz (h1.up uc sb) (by omega) (h2.up uc sb) (by omega)) ?_
 rintro v Uh3 Dh3 hU ⟨xh3,rfl,h3,-⟩
 refine Qj ?_ (perm2 (D:=Dh3))
 repeat (first|refine Qc ?_|refine Qa fun _=>?_|refine w_al fun _=>?_)
 exact Qe Dh3 sym rfl (.cons (.cell 0 rfl rfl rfl) .nil) uc sb (.inl rfl) ⟨xh3,rfl,h3,uc⟩
theorem QaB {x y:IV} {Dn Dd:MH} {z:Int} (h1:x.own Dn z) (h2:y.own Dd 1):(QV.mk x y).own (Dd++Dn) (z:Rat) := .mk h1 h2
theorem VU {z:Int} (h0 : -9223372036854775808≤z) (h1:z≤9223372036854775807) :
  Ct Tryz.prog 24 [.int .i64 z] G U M fun v U' D=>∃ r:QV,v=r.v∧r.own D (z:Rat)∧ULe U U':=by
 refine Qh Tryz.func24 rfl rfl rfl rfl ?_
 repeat (first|refine Qc ?_|refine Qa fun _=>?_|refine w_al fun _=>?_)
 refine Qd rfl rfl rfl rfl rfl rfl (fun _=>VY h0 h1) ?_
 rintro v Uh2 Dh2 hU ⟨xh2,rfl,h2,-⟩
 refine Qj ?_ (perm1 (D:=Dh2))
 repeat (first|refine Qc ?_|refine Qa fun _=>?_|refine w_al fun _=>?_)
 refine Qd rfl rfl rfl rfl rfl rfl (fun _=>VY (z:=1) (by decide) (by decide)) ?_
 rintro v Uh3 Dh3 hU ⟨xh3,rfl,h3,-⟩
 refine Qj ?_ (perm1 (D:=Dh3))
 repeat (first|refine Qc ?_|refine Qa fun _=>?_|refine w_al fun _=>?_)
 exact Qe (Dh3++Dh2) sym rfl (.cons (.cell 0 rfl rfl rfl) .nil) uc sb (.inl rfl) ⟨⟨xh2,xh3⟩,rfl,QaB h2 h3,uc⟩
theorem Qev {x:IV} {z:Int} (hx:x.rep U M z) (hn:x.n≤274877906944) :
  Ct Tryz.prog 69 [x.v] G U M fun v U' D=>∃ r:QV,v=r.v∧r.own D (z:Rat)∧ULe U U':=by
 refine Qh Tryz.func69 rfl rfl rfl rfl ?_
 repeat (first|refine Qc ?_|refine Qa fun _=>?_|refine w_al fun _=>?_)
 refine Qd rfl rfl rfl rfl rfl rfl (fun _=>jU (hx.up uc sb) (by omega)) ?_
 rintro v Uh2 Dh2 hU ⟨xh2,rfl,h2,-⟩
 refine Qj ?_ (perm2 (D:=Dh2))
 repeat (first|refine Qc ?_|refine Qa fun _=>?_|refine w_al fun _=>?_)
 refine Qd rfl rfl rfl rfl rfl rfl (fun _=>VY (z:=1) (by decide) (by decide)) ?_
 rintro v Uh3 Dh3 hU ⟨xh3,rfl,h3,-⟩
 refine Qj ?_ (perm2 (D:=Dh3))
 repeat (first|refine Qc ?_|refine Qa fun _=>?_|refine w_al fun _=>?_)
 exact Qe (Dh3++Dh2) sym rfl (.cons (.cell 0 rfl rfl rfl) .nil) uc sb (.inl rfl) ⟨⟨xh2,xh3⟩,rfl,QaB h2 h3,uc⟩
theorem Va {x:QV} {q:Rat} (hx:x.rep U M q) (hn:x.le 274877906944) :
  Ct Tryz.prog 22 [x.v] G U M fun v U' D=>v = .int .i64 q.num.sign∧U=U'∧D=[]:=by
 obtain ⟨n,d,h1,h2,rfl⟩:=hx
 refine Qh Tryz.func22 rfl rfl rfl rfl ?_
 repeat (first|refine Qc ?_|refine Qa fun _=>?_|refine w_al fun _=>?_)
 refine Qt [0,1,3,4,2,5,6,7] sym (by kernel_rfl) ?_
 repeat (first|refine Qc ?_|refine Qa fun _=>?_|refine w_al fun _=>?_)
 refine Qd rfl rfl rfl rfl rfl rfl (fun _=>VR (h1.up uc sb) (by omega)) ?_
 rintro v U' D hU ⟨rfl,rfl,rfl⟩
 repeat (first|refine Qc ?_|refine Qa fun _=>?_|refine w_al fun _=>?_)
 refine Qd rfl rfl rfl rfl rfl rfl (fun _=>VR (h2.up uc sb) (by omega)) ?_
 rintro v U' D hU ⟨rfl,rfl,rfl⟩
 repeat (first|refine Qc ?_|refine Qa fun _=>?_|refine w_al fun _=>?_)
 have e:IntKind.i64.wrap (n.sign*d.sign)=(Rat.divInt n d).num.sign:=by
  rw [Qay]
  rcases Int.lt_trichotomy n 0 with h | h | h<;>rcases Int.lt_trichotomy d 0 with h' | h' | h' <;>
   first | (rw [Int.sign_eq_neg_one_of_neg h]) | (rw [Int.sign_eq_one_of_pos h]) | (rw [h])
  all_goals first | (rw [Int.sign_eq_neg_one_of_neg h']) | (rw [Int.sign_eq_one_of_pos h']) | (rw [h'])
  all_goals decide
 rw [← e]
 exact Qe [] sym rfl (.cons (.tmp rfl) .nil) uc sb (.inl rfl) ⟨rfl,rfl,rfl⟩
theorem yJ {x:QV} {q:Rat} (hx:x.rep U M q) (hn:x.le 274877906944) :
  Ct Tryz.prog 95 [x.v] G U M fun v U' D=>∃ r:QV,v=r.v∧r.own D (-q)∧ULe U U':=by
 obtain ⟨n,d,h1,h2,rfl⟩:=hx
 have s1:=h1.sz (Nat.le_refl _)
 refine Qh Tryz.func95 rfl rfl rfl rfl ?_
 repeat (first|refine Qc ?_|refine Qa fun _=>?_|refine w_al fun _=>?_)
 refine Qt [0,1,3,4,2,5,6] sym (by kernel_rfl) ?_
 repeat (first|refine Qc ?_|refine Qa fun _=>?_|refine w_al fun _=>?_)
 refine Qd rfl rfl rfl rfl rfl rfl (fun _=>(QcT (h1.up uc sb) (by omega)).settle) ?_
 rintro v Uh3 D hU ⟨rfl,_,_,⟨xh3,rfl,h3,-⟩,-,-,hs⟩
 replace h3:=h3.sett hs
 clear hs
 repeat (first|refine Qc ?_|refine Qa fun _=>?_|refine w_al fun _=>?_)
 refine Qd rfl rfl rfl rfl rfl rfl (fun _=>jz (h3.rep.up uc sb) (h3.le (s1.neg) (by omega)) (h2.up uc sb) (by omega)) ?_
 rintro v Uh4 Dh4 hU ⟨xh4,rfl,h4,-⟩
 refine Qj ?_ (perm2 (D:=Dh4))
 repeat (first|refine Qc ?_|refine Qa fun _=>?_|refine w_al fun _=>?_)
 rw [← QhI] at h4
 exact Qe Dh4 sym rfl (.cons (.cell 0 rfl rfl rfl) .nil) uc sb (.inl rfl) ⟨xh4,rfl,h4,uc⟩
end Go.Proofs.YthnnlgjlhnmhnaaGreat

/- Walks of rational: sums, products, quotients, comparison. -/
namespace Go.Proofs.YthnnlgjlhnmhnaaGreat
open Go.Hp
variable {G:World} {U:UH} {M:MH}
theorem YP {x y:QV} {p q:Rat} (hx:x.rep U M p) (hn:x.le 68719476736) (hy:y.rep U M q) (hn':y.le 68719476736) :
  Ct Tryz.prog 20 [x.v,y.v] G U M fun v U' D=>∃ r:QV,v=r.v∧r.own D (p+q)∧ULe U U':=by
 have hx':=hx
 have hy':=hy
 obtain ⟨n1,d1,h1,h2,rfl⟩:=hx
 obtain ⟨n2,d2,h3,h4,rfl⟩:=hy
 have s1:=(h1.sz (Nat.le_refl _)).mono hn.1
 have s2:=(h2.sz (Nat.le_refl _)).mono hn.2
 have s3:=(h3.sz (Nat.le_refl _)).mono hn'.1
 have s4:=(h4.sz (Nat.le_refl _)).mono hn'.2
 refine Qh Tryz.func20 rfl rfl rfl rfl ?_
 refine QE ?_
 repeat (first|refine Ji ?_|refine Qa fun _=>?_|refine w_al fun _=>?_)
 rename_i b2 b3 b4
 refine Qo (fun E U' M'=>d1≠0∧d2≠0∧E=[(2,.pointer (some ⟨b2,0,none⟩)),(3,.pointer (some ⟨b3,0,none⟩)),(4,.pointer (some ⟨b4,0,none⟩))]∧ULe U U' ∧
  M'=(b4,.var zeroQV.v,48)::(b3,.var y.v,48)::(b2,.var x.v,48)::M) ?_ ?_
 ·try refine Qb ?_
  refine Qd rfl rfl rfl rfl rfl rfl (fun _=>VR (h2.up uc sb) (by omega)) ?_
  rintro v U' D hU ⟨rfl,rfl,rfl⟩
  repeat (first|refine Qc ?_|refine Qa fun _=>?_|refine w_al fun _=>?_)
  refine JQ rfl (fun h5=>?_) (fun h5=>?_)
  ·obtain rfl:=Int.sign_eq_zero_iff_zero.1 h5
   repeat (first|refine Qc ?_|refine Qa fun _=>?_|refine w_al fun _=>?_)
   refine Qd rfl rfl rfl rfl rfl rfl (fun _=>Ys (hy'.up uc sb) (by omega)) ?_
   rintro v Uh6 Dh6 hU ⟨xh6,rfl,h6,-⟩
   refine Qj ?_ (perm3 (D:=Dh6))
   repeat (first|refine Qc ?_|refine Qa fun _=>?_|refine w_al fun _=>?_)
   rw [Rat.divInt_zero,Rat.zero_add]
   exact Qe Dh6 sym rfl (.cons (.cell 0 rfl rfl rfl) .nil) uc sb (.inl rfl) ⟨xh6,rfl,h6,uc⟩
  have hd1:d1≠0:=fun e=>h5 (by rw [e]; rfl)
  repeat (first|refine Qc ?_|refine Qa fun _=>?_|refine w_al fun _=>?_)
  refine Qd rfl rfl rfl rfl rfl rfl (fun _=>VR (h4.up uc sb) (by omega)) ?_
  rintro v U' D hU ⟨rfl,rfl,rfl⟩
  repeat (first|refine Qc ?_|refine Qa fun _=>?_|refine w_al fun _=>?_)
  refine JQ rfl (fun h6=>?_) (fun h6=>?_)
  ·obtain rfl:=Int.sign_eq_zero_iff_zero.1 h6
   repeat (first|refine Qc ?_|refine Qa fun _=>?_|refine w_al fun _=>?_)
   refine Qd rfl rfl rfl rfl rfl rfl (fun _=>Ys (hx'.up uc sb) (by omega)) ?_
   rintro v Uh7 Dh7 hU ⟨xh7,rfl,h7,-⟩
   refine Qj ?_ (perm3 (D:=Dh7))
   repeat (first|refine Qc ?_|refine Qa fun _=>?_|refine w_al fun _=>?_)
   rw [Rat.divInt_zero,Rat.add_zero]
   exact Qe Dh7 sym rfl (.cons (.cell 0 rfl rfl rfl) .nil) uc sb (.inl rfl) ⟨xh7,rfl,h7,uc⟩
  have hd2:d2≠0:=fun e=>h6 (by rw [e]; rfl)
  repeat (first|refine Qc ?_|refine Qa fun _=>?_|refine w_al fun _=>?_)
  refine Qd rfl rfl rfl rfl rfl rfl (fun _=>Qhc (h2.up uc sb)) ?_
  rintro v U5 D hU ⟨b,rfl,hb,rfl⟩
  cases b
  ·repeat (first|refine Qc ?_|refine Qa fun _=>?_|refine w_al fun _=>?_)
   exact Qn (E':=[(2,.pointer (some ⟨b2,0,none⟩)),(3,.pointer (some ⟨b3,0,none⟩)),(4,.pointer (some ⟨b4,0,none⟩))]) ⟨rfl,rfl,rfl,trivial⟩ ⟨hd1,hd2,rfl,uc,rfl⟩
  obtain rfl:=hb rfl
  repeat (first|refine Qc ?_|refine Qa fun _=>?_|refine w_al fun _=>?_)
  refine Qd rfl rfl rfl rfl rfl rfl (fun _=>Qhc (h4.up uc sb)) ?_
  rintro v U6 D hU ⟨b,rfl,hb,rfl⟩
  cases b
  ·repeat (first|refine Qc ?_|refine Qa fun _=>?_|refine w_al fun _=>?_)
   exact Qn (E':=[(2,.pointer (some ⟨b2,0,none⟩)),(3,.pointer (some ⟨b3,0,none⟩)),(4,.pointer (some ⟨b4,0,none⟩))]) ⟨rfl,rfl,rfl,trivial⟩ ⟨hd1,hd2,rfl,uc,rfl⟩
  obtain rfl:=hb rfl
  repeat (first|refine Qc ?_|refine Qa fun _=>?_|refine w_al fun _=>?_)
  refine Qd rfl rfl rfl rfl rfl rfl (fun _=>QcI (h1.up uc sb) (by omega) (h3.up uc sb) (by omega)) ?_
  rintro v Uh7 Dh7 hU ⟨xh7,rfl,h7,-⟩
  refine Qj ?_ (perm3 (D:=Dh7))
  repeat (first|refine Qc ?_|refine Qa fun _=>?_|refine w_al fun _=>?_)
  refine Qd rfl rfl rfl rfl rfl rfl (fun _=>VY (z:=1) (by decide) (by decide)) ?_
  rintro v Uh8 Dh8 hU ⟨xh8,rfl,h8,-⟩
  refine Qj ?_ (perm3 (D:=Dh8))
  repeat (first|refine Qc ?_|refine Qa fun _=>?_|refine w_al fun _=>?_)
  refine Qe (Dh8++Dh7) sym rfl (.cons (.cell 0 rfl rfl rfl) .nil) uc sb (.inl rfl) ⟨⟨xh7,xh8⟩,rfl,?_,uc⟩
  rw [Rat.divInt_add_divInt _ _ hd1 hd2,Int.mul_one,Int.mul_one,Int.mul_one]
  exact .mk (by rw [Qbt.1]; exact h7) (by rw [Qbt.2]; exact h8)
 ·rintro E U' M' ⟨hd1,hd2,rfl,hU2,rfl⟩
  try refine Qb ?_
  refine Qt [0,1,2,3,5,6,7,8,4,9,10,11,12] sym (by kernel_rfl) ?_
  repeat (first|refine Qc ?_|refine Qa fun _=>?_|refine w_al fun _=>?_)
  refine Qd rfl rfl rfl rfl rfl rfl (fun _=>(YL (h1.up uc sb) (by omega) (h4.up uc sb) (by omega)).settle) ?_
  rintro v Uh5 D hU ⟨rfl,_,_,⟨xh5,rfl,h5,-⟩,-,-,hs⟩
  replace h5:=h5.sett hs
  clear hs
  repeat (first|refine Qc ?_|refine Qa fun _=>?_|refine w_al fun _=>?_)
  refine Qd rfl rfl rfl rfl rfl rfl (fun _=>(YL (h3.up uc sb) (by omega) (h2.up uc sb) (by omega)).settle) ?_
  rintro v Uh6 D hU ⟨rfl,_,_,⟨xh6,rfl,h6,-⟩,-,-,hs⟩
  replace h6:=h6.sett hs
  clear hs
  repeat (first|refine Qc ?_|refine Qa fun _=>?_|refine w_al fun _=>?_)
  refine Qd rfl rfl rfl rfl rfl rfl (fun _=>(QcI (h5.rep.up uc sb) (h5.le (s1.mul s4) (by omega)) (h6.rep.up uc sb) (h6.le (s3.mul s2) (by omega))).settle) ?_
  rintro v Uh7 D hU ⟨rfl,_,_,⟨xh7,rfl,h7,-⟩,-,-,hs⟩
  replace h7:=h7.sett hs
  clear hs
  repeat (first|refine Qc ?_|refine Qa fun _=>?_|refine w_al fun _=>?_)
  refine Qt [0,1,2,3,4,5,6,7] sym (by kernel_rfl) ?_
  repeat (first|refine Qc ?_|refine Qa fun _=>?_|refine w_al fun _=>?_)
  refine Qd rfl rfl rfl rfl rfl rfl (fun _=>(YL (h2.up uc sb) (by omega) (h4.up uc sb) (by omega)).settle) ?_
  rintro v Uh8 D hU ⟨rfl,_,_,⟨xh8,rfl,h8,-⟩,-,-,hs⟩
  replace h8:=h8.sett hs
  clear hs
  repeat (first|refine Qc ?_|refine Qa fun _=>?_|refine w_al fun _=>?_)
  refine Qd rfl rfl rfl rfl rfl rfl (fun _=>jz (h7.rep.up uc sb) (h7.le ((s1.mul s4).add (s3.mul s2)) (by omega)) (h8.rep.up uc sb) (h8.le (s2.mul s4) (by omega))) ?_
  rintro v Uh9 Dh9 hU ⟨xh9,rfl,h9,-⟩
  refine Qj ?_ (perm4 (D:=Dh9))
  repeat (first|refine Qc ?_|refine Qa fun _=>?_|refine w_al fun _=>?_)
  rw [Rat.divInt_add_divInt _ _ hd1 hd2]
  exact Qe Dh9 sym rfl (.cons (.cell 1 rfl rfl rfl) .nil) uc sb (.inl rfl) ⟨xh9,rfl,h9,uc⟩
theorem Qhs {x y:QV} {p q:Rat} (hx:x.rep U M p) (hn:x.le 68719476736) (hy:y.rep U M q) (hn':y.le 68719476736) :
  Ct Tryz.prog 148 [x.v,y.v] G U M fun v U' D=>∃ r:QV,v=r.v∧r.own D (p - q)∧ULe U U':=by
 have s2:=hy.sz hn' (by omega)
 refine Qh Tryz.func148 rfl rfl rfl rfl ?_
 repeat (first|refine Qc ?_|refine Qa fun _=>?_|refine w_al fun _=>?_)
 refine Qt [0,1,2,3,4] sym (by kernel_rfl) ?_
 repeat (first|refine Qc ?_|refine Qa fun _=>?_|refine w_al fun _=>?_)
 refine Qd rfl rfl rfl rfl rfl rfl (fun _=>(yJ (hy.up uc sb) (by omega)).settle) ?_
 rintro v Uh1 D hU ⟨rfl,_,_,⟨xh1,rfl,h1,-⟩,-,-,hs⟩
 replace h1:=h1.sett hs
 clear hs
 repeat (first|refine Qc ?_|refine Qa fun _=>?_|refine w_al fun _=>?_)
 refine Qd rfl rfl rfl rfl rfl rfl (fun _=>YP (hx.up uc sb) (by omega) (h1.rep.up uc sb) (h1.le (s2.neg) (by omega))) ?_
 rintro v Uh2 Dh2 hU ⟨xh2,rfl,h2,-⟩
 refine Qj ?_ (perm3 (D:=Dh2))
 repeat (first|refine Qc ?_|refine Qa fun _=>?_|refine w_al fun _=>?_)
 rw [Rat.sub_eq_add_neg]
 exact Qe Dh2 sym rfl (.cons (.cell 0 rfl rfl rfl) .nil) uc sb (.inl rfl) ⟨xh2,rfl,h2,uc⟩
theorem YM {x y:QV} {p q:Rat} (hx:x.rep U M p) (hn:x.le 68719476736) (hy:y.rep U M q) (hn':y.le 68719476736) :
  Ct Tryz.prog 23 [x.v,y.v] G U M fun v U' D=>∃ r:QV,v=r.v∧r.own D (p*q)∧ULe U U':=by
 obtain ⟨n1,d1,h1,h2,rfl⟩:=hx
 obtain ⟨n2,d2,h3,h4,rfl⟩:=hy
 have s1:=(h1.sz (Nat.le_refl _)).mono hn.1
 have s2:=(h2.sz (Nat.le_refl _)).mono hn.2
 have s3:=(h3.sz (Nat.le_refl _)).mono hn'.1
 have s4:=(h4.sz (Nat.le_refl _)).mono hn'.2
 refine Qh Tryz.func23 rfl rfl rfl rfl ?_
 repeat (first|refine Qc ?_|refine Qa fun _=>?_|refine w_al fun _=>?_)
 refine Qt [0,1,2,3,5,6,7,8,4,9,10,11] sym (by kernel_rfl) ?_
 repeat (first|refine Qc ?_|refine Qa fun _=>?_|refine w_al fun _=>?_)
 refine Qd rfl rfl rfl rfl rfl rfl (fun _=>(YL (h1.up uc sb) (by omega) (h3.up uc sb) (by omega)).settle) ?_
 rintro v Uh5 D hU ⟨rfl,_,_,⟨xh5,rfl,h5,-⟩,-,-,hs⟩
 replace h5:=h5.sett hs
 clear hs
 repeat (first|refine Qc ?_|refine Qa fun _=>?_|refine w_al fun _=>?_)
 refine Qd rfl rfl rfl rfl rfl rfl (fun _=>(YL (h2.up uc sb) (by omega) (h4.up uc sb) (by omega)).settle) ?_
 rintro v Uh6 D hU ⟨rfl,_,_,⟨xh6,rfl,h6,-⟩,-,-,hs⟩
 replace h6:=h6.sett hs
 clear hs
 repeat (first|refine Qc ?_|refine Qa fun _=>?_|refine w_al fun _=>?_)
 refine Qd rfl rfl rfl rfl rfl rfl (fun _=>jz (h5.rep.up uc sb) (h5.le (s1.mul s3) (by omega)) (h6.rep.up uc sb) (h6.le (s2.mul s4) (by omega))) ?_
 rintro v Uh7 Dh7 hU ⟨xh7,rfl,h7,-⟩
 refine Qj ?_ (perm3 (D:=Dh7))
 repeat (first|refine Qc ?_|refine Qa fun _=>?_|refine w_al fun _=>?_)
 rw [Rat.divInt_mul_divInt]
 exact Qe Dh7 sym rfl (.cons (.cell 0 rfl rfl rfl) .nil) uc sb (.inl rfl) ⟨xh7,rfl,h7,uc⟩
theorem QaG {x y:QV} {p q:Rat} (hx:x.rep U M p) (hn:x.le 68719476736) (hy:y.rep U M q) (hn':y.le 68719476736) :
  Ct Tryz.prog 45 [x.v,y.v] G U M fun v U' D=>∃ (r:QV) (e:Int),v = .tuple #[r.v,.int .i64 e]∧(q=0→e=5∧r=zeroQV∧D=[])∧(q≠0→e=0∧r.own D (p / q))∧ULe U U':=by
 have hy':=hy
 obtain ⟨n1,d1,h1,h2,rfl⟩:=hx
 obtain ⟨n2,d2,h3,h4,rfl⟩:=hy
 have s1:=(h1.sz (Nat.le_refl _)).mono hn.1
 have s2:=(h2.sz (Nat.le_refl _)).mono hn.2
 have s3:=(h3.sz (Nat.le_refl _)).mono hn'.1
 have s4:=(h4.sz (Nat.le_refl _)).mono hn'.2
 refine Qh Tryz.func45 rfl rfl rfl rfl ?_
 repeat (first|refine Qc ?_|refine Qa fun _=>?_|refine w_al fun _=>?_)
 refine Qd rfl rfl rfl rfl rfl rfl (fun _=>Va (hy'.up uc sb) (by omega)) ?_
 rintro v U' D hU ⟨rfl,rfl,rfl⟩
 repeat (first|refine Qc ?_|refine Qa fun _=>?_|refine w_al fun _=>?_)
 refine JQ rfl (fun h5=>?_) (fun h5=>?_)
 ·have hq:=js.1 (Int.sign_eq_zero_iff_zero.1 h5)
  repeat (first|refine Qc ?_|refine Qa fun _=>?_|refine w_al fun _=>?_)
  exact Qe [] sym rfl (.cons (.cell 0 rfl rfl rfl) (.cons (.tmp rfl) .nil)) uc sb (.inl rfl) ⟨zeroQV,5,rfl,fun _=>⟨rfl,rfl,rfl⟩,fun h=>absurd hq h,uc⟩
 ·have hq:Rat.divInt n2 d2≠0:=fun e=>h5 (by rw [e]; rfl)
  repeat (first|refine Qc ?_|refine Qa fun _=>?_|refine w_al fun _=>?_)
  refine Qt [0,1,2,3,5,6,7,8,4,9,10,11,12] sym (by kernel_rfl) ?_
  repeat (first|refine Qc ?_|refine Qa fun _=>?_|refine w_al fun _=>?_)
  refine Qd rfl rfl rfl rfl rfl rfl (fun _=>(YL (h1.up uc sb) (by omega) (h4.up uc sb) (by omega)).settle) ?_
  rintro v Uh6 D hU ⟨rfl,_,_,⟨xh6,rfl,h6,-⟩,-,-,hs⟩
  replace h6:=h6.sett hs
  clear hs
  repeat (first|refine Qc ?_|refine Qa fun _=>?_|refine w_al fun _=>?_)
  refine Qd rfl rfl rfl rfl rfl rfl (fun _=>(YL (h2.up uc sb) (by omega) (h3.up uc sb) (by omega)).settle) ?_
  rintro v Uh7 D hU ⟨rfl,_,_,⟨xh7,rfl,h7,-⟩,-,-,hs⟩
  replace h7:=h7.sett hs
  clear hs
  repeat (first|refine Qc ?_|refine Qa fun _=>?_|refine w_al fun _=>?_)
  refine Qd rfl rfl rfl rfl rfl rfl (fun _=>jz (h6.rep.up uc sb) (h6.le (s1.mul s4) (by omega)) (h7.rep.up uc sb) (h7.le (s2.mul s3) (by omega))) ?_
  rintro v Uh8 Dh8 hU ⟨xh8,rfl,h8,-⟩
  refine Qj ?_ (perm3 (D:=Dh8))
  repeat (first|refine Qc ?_|refine Qa fun _=>?_|refine w_al fun _=>?_)
  exact Qe Dh8 sym rfl (.cons (.cell 0 rfl rfl rfl) (.cons (.tmp rfl) .nil)) uc sb (.inl rfl) ⟨xh8,0,rfl,fun h=>absurd h hq,fun _=>⟨rfl,by rw [Qco]; exact h8⟩,uc⟩
theorem QhQ {x y:QV} {p q:Rat} (hx:x.rep U M p) (hn:x.le 68719476736) (hy:y.rep U M q) (hn':y.le 68719476736) :
  Ct Tryz.prog 126 [x.v,y.v] G U M fun v U' D=>v = .int .i64 (p - q).num.sign∧ULe U U'∧D=[]:=by
 have s1:=hx.sz hn (by omega)
 have s2:=hy.sz hn' (by omega)
 refine Qh Tryz.func126 rfl rfl rfl rfl ?_
 repeat (first|refine Qc ?_|refine Qa fun _=>?_|refine w_al fun _=>?_)
 refine Qd rfl rfl rfl rfl rfl rfl (fun _=>(Qhs (hx.up uc sb) (by omega) (hy.up uc sb) (by omega)).settle) ?_
 rintro v Uh1 D hU ⟨rfl,_,_,⟨xh1,rfl,h1,-⟩,-,-,hs⟩
 replace h1:=h1.sett hs
 clear hs
 repeat (first|refine Qc ?_|refine Qa fun _=>?_|refine w_al fun _=>?_)
 refine Qd rfl rfl rfl rfl rfl rfl (fun _=>Va (h1.rep.up uc sb) (h1.le (s1.sub s2) (by omega))) ?_
 rintro v U' D hU ⟨rfl,rfl,rfl⟩
 repeat (first|refine Qc ?_|refine Qa fun _=>?_|refine w_al fun _=>?_)
 exact Qe [] sym rfl (.cons (.tmp rfl) .nil) uc sb (.inl rfl) ⟨rfl,uc,rfl⟩
end Go.Proofs.YthnnlgjlhnmhnaaGreat

/- Walks of rational: binary digits, neighboring integers, decimal forms. -/
namespace Go.Proofs.YthnnlgjlhnmhnaaGreat
open Go.Hp
variable {G:World} {U:UH} {M:MH}
theorem QeZ {x:QV} {q:Rat} (hx:x.rep U M q) (hn:x.le 274877906944) :
  Ct Tryz.prog 110 [x.v] G U M fun v U' D=>∃ r:IV,v=r.v∧r.nrm U' [] q.floor∧D=[]:=by
 have s1:=hx.sz hn (by omega)
 have hd:=qo q
 refine Qh Tryz.func110 rfl rfl rfl rfl ?_
 repeat (first|refine Qc ?_|refine Qa fun _=>?_|refine w_al fun _=>?_)
 refine Qd rfl rfl rfl rfl rfl rfl (fun _=>(Ys (hx.up uc sb) (by omega)).settle) ?_
 rintro v Uh1 D hU ⟨rfl,_,_,⟨xh1,rfl,h1,-⟩,-,-,hs⟩
 replace h1:=h1.sett hs
 clear hs
 repeat (first|refine Qc ?_|refine Qa fun _=>?_|refine w_al fun _=>?_)
 refine Qd rfl rfl rfl rfl rfl rfl (fun _=>(qS (h1.1.rep.up uc sb) (h1.1.le s1.1 (by omega)) (h1.2.rep.up uc sb) (h1.2.le s1.2 (by omega))).settle) ?_
 rintro v U2 D hU ⟨rfl,_,_,⟨q2,r2,e2,Dq,Dr,rfl,rfl,h2,-,-⟩,-,-,hs⟩
 obtain ⟨rfl,h3,-⟩:=h2 (by omega)
 replace h3:=h3.sett hs.right
 rw [← Rat.floor_def] at h3
 repeat (first|refine Qc ?_|refine Qa fun _=>?_|refine w_al fun _=>?_)
 exact Qe [] sym rfl (.cons (.cell 2 rfl rfl rfl) .nil) uc sb (.inl rfl) ⟨q2,rfl,h3,rfl⟩
theorem QbH {q:Rat} {k:Nat} (h:Szq q k):Sz q.floor k:=by
 rw [Rat.floor_def]
 exact Nat.lt_of_le_of_lt (Int.natAbs_ediv_le_natAbs _ _) h.1
end Go.Proofs.YthnnlgjlhnmhnaaGreat
