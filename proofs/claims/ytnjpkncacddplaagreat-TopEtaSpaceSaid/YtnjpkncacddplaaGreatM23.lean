/- Texts of this seat's own, merged: each begins with its own remark. -/
import Derived.Test.YtnjpkncacddplaaGreatB97
/- Walks of matrix: determinants. -/
namespace Go.Proofs.YtnjpkncacddplaaGreat
open Go.Hp
variable {G:World} {U U':UH} {M M':MH}
theorem _root_.Go.La.Red.full {n:Nat} {A R:La.Mx Rat} {p:Nat→Nat} {d:Rat} {r:Nat} (h:La.Red n n n r A R p d):(r=n∧∀ i j,i < n→j < n→R i j=La.idm i j)∨(r < n∧∀ j,j < n→R (n - 1) j=0):=by
 rcases Nat.lt_or_eq_of_le h.le with h1 | h1
 ·exact .inr ⟨h1,fun j hj=>h.zero (n - 1) j (by omega) (by omega) hj⟩
 ·subst h1; exact .inl ⟨rfl,h.ech.full.2⟩
theorem _root_.Go.La.Red.det {n:Nat} {A R:La.Mx Rat} {p:Nat→Nat} {d:Rat} {r:Nat} (h:La.Red n n n r A R p d):(r=n→La.det n A=d)∧(r < n→La.det n A=0):=by
 rcases h.full with ⟨h1,h2⟩ | ⟨h1,h2⟩
 ·exact ⟨fun _=>(h.rop rfl).det h2,fun h3=>absurd h1 (by omega)⟩
 ·exact ⟨fun h3=>absurd h1 (by omega),fun _=>(h.rop rfl).det0 (r:=n - 1) (by omega) h2⟩
theorem _root_.Go.La.Red.mul {n:Nat} {A R:La.Mx Rat} {p:Nat→Nat} {d:Rat} {r:Nat} (h:La.Red n n n r A R p d) (B:La.Mx Rat):La.det n (La.mm n A B)=La.det n A*La.det n B:=by
 refine (h.rop rfl).det_mul ?_ B
 rcases h.full with ⟨h1,h2⟩ | ⟨h1,h2⟩
 ·exact .inl h2
 ·exact .inr ⟨n - 1,by omega,h2⟩
theorem QcU {r c:Nat} (hr:r≤1024) (hc:c≤1024):Vld (r:Int) (c:Int) (r*c):=⟨by omega,by omega,by omega,by omega,by rw [Int.natCast_mul]⟩
theorem QiB {n b:Nat} {vm:Value} {A:Nat→Nat→Rat} (hm:Vm (Wq b) n n U vm A) (hb1:1≤b) (hgro:1+n*La.gro b n≤1000000000) (hgro2:La.gro b n≤1000000000) (hn:n≤1000) :
  Ct Tryz.prog 66 [vm] G U M fun v U' D=>∃ x:QV,v = .tuple #[x.v,.int .i64 0]∧x.nrm U' [] (La.det n A)∧D=[]∧(∃ r R p d,La.Red n n n r A R p d)∧Szq (La.det n A) (1+n*La.gro b n):=by
 have hnn:n*n≤1000*1000:=Nat.mul_le_mul hn hn
 have hb:b≤1000000000:=Nat.le_trans (La.gro_le (k:=b) (Nat.zero_le n)) hgro2
 have hm2:=hm
 obtain ⟨_,rfl,pa,cm,ms,rfl,-⟩:=hm
 refine Qg Tryz.func66 rfl rfl rfl rfl ?_
 repeat (first|refine Qb ?_|refine Qa fun _=>?_|refine w_al fun _=>?_)
 rename_i b1 b2
 refine Qd rfl rfl rfl rfl rfl rfl (fun _=>qD (r:=(n:Int)) (c:=(n:Int)) (n:=n*n) (p:=pa) (cc:=cm) (by omega)) ?_
 rintro v U' D hU ⟨rfl,rfl,rfl⟩
 repeat (first|refine Qb ?_|refine Qa fun _=>?_|refine w_al fun _=>?_)
 rw [decide_eq_true ⟨QcU (by omega) (by omega),rfl⟩]
 repeat (first|refine Qb ?_|refine Qa fun _=>?_|refine w_al fun _=>?_)
 refine vU [4,9,10] (.node 8 4 (.leaf [0,2,3,1,8,4,5,6,7,9,10]) (.leaf [0,2,3,1,4,5,6,7,8,9,10])) sym (by kernel_rfl) (by kernel_rfl) (vO (VY ?_) (VY ?_))
 ·try refine Qc ?_
  refine Qd rfl rfl rfl rfl rfl rfl (fun _=>jl (QaD QaM _ _ _ _ uc hm2) (by omega) (by omega) (by omega) (by omega)) ?_
  rintro v1 U1 D1 hU1 ⟨hg,-⟩
  repeat (first|refine Qb ?_|refine Qa fun _=>?_|refine w_al fun _=>?_)
  rename_i b5
  refine Yd rfl rfl rfl rfl rfl rfl ((qA (X:=(b5,.var zeroQV.v,TR)::(b2,.var zeroQV.v,TR)::(b1,.var (.agg #[.int .i64 (n:Int),.int .i64 (n:Int),.slice pa (n*n) cm]),TM)::M) (cl:=n) hg.w (fun i j hi hj=>hm2.sz hb1 hi hj) (Nat.le_refl n) hb1 hgro hgro2 (by omega) (by omega)).perm pm) ?_
  rintro v2 U2 M2 hU2 ⟨-,r,R,p,vp,xd,d,D',Dp,rfl,rfl,hg2,⟨pp,cp,pvs,rfl,hrp,ep⟩,hd,hred,hsz,hsd⟩
  refine Qn (M':=(b5,.var zeroQV.v,TR)::(b2,.var zeroQV.v,TR)::(b1,.var (.agg #[.int .i64 (n:Int),.int .i64 (n:Int),.slice pa (n*n) cm]),TM)::(D'++(Dp++M))) ?_ pm
  obtain ⟨hdet1,hdet2⟩:=hred.det
  have hrn:=hred.le
  repeat (first|refine Qb ?_|refine Qa fun _=>?_|refine w_al fun _=>?_)
  refine Qh rfl (fun h=>?_) (fun h=>?_)
  ·have hlt:r < n:=by omega
   repeat (first|refine Qb ?_|refine Qa fun _=>?_|refine w_al fun _=>?_)
   refine Qd rfl rfl rfl rfl rfl rfl (fun _=>(VQ (z:=0) (by decide) (by decide)).settle) ?_
   rintro v Uh8 D hU ⟨rfl,_,_,⟨xh8,rfl,h8,-⟩,-,-,hs⟩
   replace h8:=h8.sett hs
   clear hs
   repeat (first|refine Qb ?_|refine Qa fun _=>?_|refine w_al fun _=>?_)
   refine Qe [] sym rfl (.cons (.cell 1 rfl rfl rfl) (.cons (.tmp rfl) .nil)) uc sb (.inl rfl) ⟨xh8,rfl,?_,rfl,⟨r,R,p,d,hred⟩,?_⟩
   ·rw [hdet2 hlt]; exact h8
   ·rw [hdet2 hlt]; exact VJ.mono (by omega)
  ·have heq:r=n:=by omega
   repeat (first|refine Qb ?_|refine Qa fun _=>?_|refine w_al fun _=>?_)
   refine Qe [] sym rfl (.cons (.cell 1 rfl rfl rfl) (.cons (.tmp rfl) .nil)) uc sb (.inl rfl) ⟨xd,rfl,?_,rfl,⟨r,R,p,d,hred⟩,?_⟩
   ·rw [hdet1 heq]; exact hd.up uc sb
   ·rw [hdet1 heq]; exact hsd
 ·try refine Qc ?_
  refine Qd rfl rfl rfl rfl rfl rfl (fun _=>jl (QaD QaM _ _ _ _ uc hm2) (by omega) (by omega) (by omega) (by omega)) ?_
  rintro v1 U1 D1 hU1 ⟨hg,-⟩
  try refine Qc ?_
  refine Yd rfl rfl rfl rfl rfl rfl (qA (X:=(b2,.var zeroQV.v,TR)::(b1,.var (.agg #[.int .i64 (n:Int),.int .i64 (n:Int),.slice pa (n*n) cm]),TM)::M) (cl:=n) hg.w (fun i j hi hj=>hm2.sz hb1 hi hj) (Nat.le_refl n) hb1 hgro hgro2 (by omega) (by omega)) ?_
  rintro v2 U2 M2 hU2 ⟨-,r,R,p,vp,xd,d,D',Dp,rfl,rfl,hg2,⟨pp,cp,pvs,rfl,hrp,ep⟩,hd,hred,hsz,hsd⟩
  refine Qn (M':=(b2,.var zeroQV.v,TR)::(b1,.var (.agg #[.int .i64 (n:Int),.int .i64 (n:Int),.slice pa (n*n) cm]),TM)::(D'++(Dp++M))) ?_ pm
  obtain ⟨hdet1,hdet2⟩:=hred.det
  have hrn:=hred.le
  repeat (first|refine Qb ?_|refine Qa fun _=>?_|refine w_al fun _=>?_)
  rename_i b5
  refine Qh rfl (fun h=>?_) (fun h=>?_)
  ·have hlt:r < n:=by omega
   repeat (first|refine Qb ?_|refine Qa fun _=>?_|refine w_al fun _=>?_)
   refine Qd rfl rfl rfl rfl rfl rfl (fun _=>(VQ (z:=0) (by decide) (by decide)).settle) ?_
   rintro v Uh8 D hU ⟨rfl,_,_,⟨xh8,rfl,h8,-⟩,-,-,hs⟩
   replace h8:=h8.sett hs
   clear hs
   repeat (first|refine Qb ?_|refine Qa fun _=>?_|refine w_al fun _=>?_)
   refine Qe [] sym rfl (.cons (.cell 1 rfl rfl rfl) (.cons (.tmp rfl) .nil)) uc sb (.inl rfl) ⟨xh8,rfl,?_,rfl,⟨r,R,p,d,hred⟩,?_⟩
   ·rw [hdet2 hlt]; exact h8
   ·rw [hdet2 hlt]; exact VJ.mono (by omega)
  ·have heq:r=n:=by omega
   repeat (first|refine Qb ?_|refine Qa fun _=>?_|refine w_al fun _=>?_)
   refine Qe [] sym rfl (.cons (.cell 1 rfl rfl rfl) (.cons (.tmp rfl) .nil)) uc sb (.inl rfl) ⟨xd,rfl,?_,rfl,⟨r,R,p,d,hred⟩,?_⟩
   ·rw [hdet1 heq]; exact hd.up uc sb
   ·rw [hdet1 heq]; exact hsd
end Go.Proofs.YtnjpkncacddplaaGreat

/- Walks of matrix: echelon forms and ranks. -/
namespace Go.Proofs.YtnjpkncacddplaaGreat
open Go.Hp
variable {G:World} {U U':UH} {M M':MH}
theorem Lg.take {r c k:Nat} {p:Option Addr} {cc:Nat} {A:Nat→Nat→Rat} (h:Lg r c U M (.slice p r cc) A) (hk:k≤r):Lg k c U M (.slice p k cc) A:=by
 obtain ⟨p1,c1,vs,h1,h0,h2,h3⟩:=h
 obtain ⟨rfl,-,rfl⟩:=Value.slice.inj h1
 exact ⟨p,cc,vs.take k,rfl,by omega,h2.take hk,fun j x hj=>by
  rw [List.getElem?_take] at hj
  split at hj
  ·exact h3 j x hj
  ·cases hj⟩
theorem _root_.Go.La.Red.echof {m n r:Nat} {A R:La.Mx Rat} {p:Nat→Nat} {d:Rat} (h:La.Red m n n r A R p d):EchOf m n r A R p:=by
 refine ⟨h.ech,La.Same.trans ⟨fun i hi=>La.Sp.row (by have:=h.le; omega),fun i hi=>?_⟩ h.span,h.le⟩
 rcases Nat.lt_or_ge i r with h1 | h1
 ·exact La.Sp.row h1
 ·exact La.Sp.zero.congr (fun _ _ _ _=>rfl) (fun j hj=>(h.zero i j h1 hi hj).symm)
end Go.Proofs.YtnjpkncacddplaaGreat
