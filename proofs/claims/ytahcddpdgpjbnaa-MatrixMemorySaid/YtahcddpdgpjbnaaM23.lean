/- Texts of this seat's own, merged: each begins with its own remark. -/
import Derived.Test.YtahcddpdgpjbnaaB97
/- Walks of matrix: determinants. -/
namespace Go.Proofs.Ytahcddpdgpjbnaa
open Go.Hp
variable {G:World} {U U':UH} {M M':MH}
theorem _root_.Go.La.Red.full {n:Nat} {A R:La.Mx Rat} {p:Nat→Nat} {d:Rat} {r:Nat} (h:La.Red n n n r A R p d):(r=n∧∀ i j,i < n→j < n→R i j=La.idm i j)∨(r < n∧∀ j,j < n→R (n - 1) j=0):=by
 rcases Nat.lt_or_eq_of_le h.le with h1 | h1
 ·exact .inr ⟨h1,fun j hj=>h.zero (n - 1) j (by omega) (by omega) hj⟩
 ·subst h1; exact .inl ⟨rfl,h.ech.full.2⟩
theorem _root_.Go.La.Red.det {n:Nat} {A R:La.Mx Rat} {p:Nat→Nat} {d:Rat} {r:Nat} (h:La.Red n n n r A R p d):(r=n→La.det n A=d)∧(r < n→La.det n A=0):=by
 rcases h.full with ⟨h1,h2⟩ | ⟨h1,h2⟩
 ·exact ⟨fun _=>(h.rop rfl).det h2,fun h3=>absurd h1 (by omega)⟩
 ·exact ⟨fun h3=>absurd h1 (by omega),fun _=>(h.rop rfl).det0 (r:=n - 1) (by omega) h2⟩
theorem _root_.Go.La.Red.mul {n:Nat} {A R:La.Mx Rat} {p:Nat→Nat} {d:Rat} {r:Nat} (h:La.Red n n n r A R p d) (B:La.Mx Rat):La.det n (La.mm n A B)=La.det n A*La.det n B:=by
 refine (h.rop rfl).det_mul ?_ B
 rcases h.full with ⟨h1,h2⟩ | ⟨h1,h2⟩
 ·exact .inl h2
 ·exact .inr ⟨n - 1,by omega,h2⟩
theorem Yd {r c:Nat} (hr:r≤1024) (hc:c≤1024):Vld (r:Int) (c:Int) (r*c):=⟨by omega,by omega,by omega,by omega,by rw [Int.natCast_mul]⟩
theorem QdC {n b:Nat} {vm:Value} {A:Nat→Nat→Rat} (hm:Vm (Wq b) n n U vm A) (hb1:1≤b) (hgro:1+n*La.gro b n≤1000000000) (hgro2:La.gro b n≤1000000000) (hn:n≤1000) :
  Ct Try.prog 17 [vm] G U M fun v U' D=>∃ x:QV,v = .tuple #[x.v,.int .i64 0]∧x.nrm U' [] (La.det n A)∧D=[]∧(∃ r R p d,La.Red n n n r A R p d)∧Szq (La.det n A) (1+n*La.gro b n):=by
 have hnn:n*n≤1000*1000:=Nat.mul_le_mul hn hn
 have hb:b≤1000000000:=Nat.le_trans (La.gro_le (k:=b) (Nat.zero_le n)) hgro2
 have hm2:=hm
 obtain ⟨_,rfl,pa,cm,ms,rfl,-⟩:=hm
 refine Qf Try.func17 rfl rfl rfl rfl ?_
 repeat (first|refine Qc ?_|refine Qb fun _=>?_|refine w_al fun _=>?_)
 rename_i b1 b2
 refine Qd rfl rfl rfl rfl rfl rfl (fun _=>Yf (r:=(n:Int)) (c:=(n:Int)) (n:=n*n) (p:=pa) (cc:=cm) (by omega)) ?_
 rintro v U' D hU ⟨rfl,rfl,rfl⟩
 repeat (first|refine Qc ?_|refine Qb fun _=>?_|refine w_al fun _=>?_)
 rw [decide_eq_true ⟨Yd (by omega) (by omega),rfl⟩]
 repeat (first|refine Qc ?_|refine Qb fun _=>?_|refine w_al fun _=>?_)
 refine QbG [4,9,10] (.node 8 4 (.leaf [0,2,3,1,8,4,5,6,7,9,10]) (.leaf [0,2,3,1,4,5,6,7,8,9,10])) sym (by kernel_rfl) (by kernel_rfl) (QbS (jV ?_) (jV ?_))
 ·try refine Qa ?_
  refine Qd rfl rfl rfl rfl rfl rfl (fun _=>jB (VA jf _ _ _ _ uc hm2) (by omega) (by omega) (by omega) (by omega)) ?_
  rintro v1 U1 D1 hU1 ⟨hg,-⟩
  repeat (first|refine Qc ?_|refine Qb fun _=>?_|refine w_al fun _=>?_)
  rename_i b5
  refine Jp rfl rfl rfl rfl rfl rfl ((Vp (X:=(b5,.var zeroQV.v,TR)::(b2,.var zeroQV.v,TR)::(b1,.var (.agg #[.int .i64 (n:Int),.int .i64 (n:Int),.slice pa (n*n) cm]),TM)::M) (cl:=n) hg.w (fun i j hi hj=>hm2.sz hb1 hi hj) (Nat.le_refl n) hb1 hgro hgro2 (by omega) (by omega)).perm pm) ?_
  rintro v2 U2 M2 hU2 ⟨-,r,R,p,vp,xd,d,D',Dp,rfl,rfl,hg2,⟨pp,cp,pvs,rfl,hrp,ep⟩,hd,hred,hsz,hsd⟩
  refine Qg (M':=(b5,.var zeroQV.v,TR)::(b2,.var zeroQV.v,TR)::(b1,.var (.agg #[.int .i64 (n:Int),.int .i64 (n:Int),.slice pa (n*n) cm]),TM)::(D'++(Dp++M))) ?_ pm
  obtain ⟨hdet1,hdet2⟩:=hred.det
  have hrn:=hred.le
  repeat (first|refine Qc ?_|refine Qb fun _=>?_|refine w_al fun _=>?_)
  refine Qk rfl (fun h=>?_) (fun h=>?_)
  ·have hlt:r < n:=by omega
   repeat (first|refine Qc ?_|refine Qb fun _=>?_|refine w_al fun _=>?_)
   refine Qd rfl rfl rfl rfl rfl rfl (fun _=>(jx (z:=0) (by decide) (by decide)).settle) ?_
   rintro v Uh8 D hU ⟨rfl,_,_,⟨xh8,rfl,h8,-⟩,-,-,hs⟩
   replace h8:=h8.sett hs
   clear hs
   repeat (first|refine Qc ?_|refine Qb fun _=>?_|refine w_al fun _=>?_)
   refine Qe [] sym rfl (.cons (.cell 1 rfl rfl rfl) (.cons (.tmp rfl) .nil)) uc sb (.inl rfl) ⟨xh8,rfl,?_,rfl,⟨r,R,p,d,hred⟩,?_⟩
   ·rw [hdet2 hlt]; exact h8
   ·rw [hdet2 hlt]; exact Yk.mono (by omega)
  ·have heq:r=n:=by omega
   repeat (first|refine Qc ?_|refine Qb fun _=>?_|refine w_al fun _=>?_)
   refine Qe [] sym rfl (.cons (.cell 1 rfl rfl rfl) (.cons (.tmp rfl) .nil)) uc sb (.inl rfl) ⟨xd,rfl,?_,rfl,⟨r,R,p,d,hred⟩,?_⟩
   ·rw [hdet1 heq]; exact hd.up uc sb
   ·rw [hdet1 heq]; exact hsd
 ·try refine Qa ?_
  refine Qd rfl rfl rfl rfl rfl rfl (fun _=>jB (VA jf _ _ _ _ uc hm2) (by omega) (by omega) (by omega) (by omega)) ?_
  rintro v1 U1 D1 hU1 ⟨hg,-⟩
  try refine Qa ?_
  refine Jp rfl rfl rfl rfl rfl rfl (Vp (X:=(b2,.var zeroQV.v,TR)::(b1,.var (.agg #[.int .i64 (n:Int),.int .i64 (n:Int),.slice pa (n*n) cm]),TM)::M) (cl:=n) hg.w (fun i j hi hj=>hm2.sz hb1 hi hj) (Nat.le_refl n) hb1 hgro hgro2 (by omega) (by omega)) ?_
  rintro v2 U2 M2 hU2 ⟨-,r,R,p,vp,xd,d,D',Dp,rfl,rfl,hg2,⟨pp,cp,pvs,rfl,hrp,ep⟩,hd,hred,hsz,hsd⟩
  refine Qg (M':=(b2,.var zeroQV.v,TR)::(b1,.var (.agg #[.int .i64 (n:Int),.int .i64 (n:Int),.slice pa (n*n) cm]),TM)::(D'++(Dp++M))) ?_ pm
  obtain ⟨hdet1,hdet2⟩:=hred.det
  have hrn:=hred.le
  repeat (first|refine Qc ?_|refine Qb fun _=>?_|refine w_al fun _=>?_)
  rename_i b5
  refine Qk rfl (fun h=>?_) (fun h=>?_)
  ·have hlt:r < n:=by omega
   repeat (first|refine Qc ?_|refine Qb fun _=>?_|refine w_al fun _=>?_)
   refine Qd rfl rfl rfl rfl rfl rfl (fun _=>(jx (z:=0) (by decide) (by decide)).settle) ?_
   rintro v Uh8 D hU ⟨rfl,_,_,⟨xh8,rfl,h8,-⟩,-,-,hs⟩
   replace h8:=h8.sett hs
   clear hs
   repeat (first|refine Qc ?_|refine Qb fun _=>?_|refine w_al fun _=>?_)
   refine Qe [] sym rfl (.cons (.cell 1 rfl rfl rfl) (.cons (.tmp rfl) .nil)) uc sb (.inl rfl) ⟨xh8,rfl,?_,rfl,⟨r,R,p,d,hred⟩,?_⟩
   ·rw [hdet2 hlt]; exact h8
   ·rw [hdet2 hlt]; exact Yk.mono (by omega)
  ·have heq:r=n:=by omega
   repeat (first|refine Qc ?_|refine Qb fun _=>?_|refine w_al fun _=>?_)
   refine Qe [] sym rfl (.cons (.cell 1 rfl rfl rfl) (.cons (.tmp rfl) .nil)) uc sb (.inl rfl) ⟨xd,rfl,?_,rfl,⟨r,R,p,d,hred⟩,?_⟩
   ·rw [hdet1 heq]; exact hd.up uc sb
   ·rw [hdet1 heq]; exact hsd
end Go.Proofs.Ytahcddpdgpjbnaa

/- Walks of matrix: echelon forms and ranks. -/
namespace Go.Proofs.Ytahcddpdgpjbnaa
open Go.Hp
variable {G:World} {U U':UH} {M M':MH}
theorem Lg.take {r c k:Nat} {p:Option Addr} {cc:Nat} {A:Nat→Nat→Rat} (h:Lg r c U M (.slice p r cc) A) (hk:k≤r):Lg k c U M (.slice p k cc) A:=by
 obtain ⟨p1,c1,vs,h1,h0,h2,h3⟩:=h
 obtain ⟨rfl,-,rfl⟩:=Value.slice.inj h1
 exact ⟨p,cc,vs.take k,rfl,by omega,h2.take hk,fun j x hj=>by
  rw [List.getElem?_take] at hj
  split at hj
  ·exact h3 j x hj
  ·cases hj⟩
theorem _root_.Go.La.Red.echof {m n r:Nat} {A R:La.Mx Rat} {p:Nat→Nat} {d:Rat} (h:La.Red m n n r A R p d):EchOf m n r A R p:=by
 refine ⟨h.ech,La.Same.trans ⟨fun i hi=>La.Sp.row (by have:=h.le; omega),fun i hi=>?_⟩ h.span,h.le⟩
 rcases Nat.lt_or_ge i r with h1 | h1
 ·exact La.Sp.row h1
 ·exact La.Sp.zero.congr (fun _ _ _ _=>rfl) (fun j hj=>(h.zero i j h1 hi hj).symm)
theorem yy {m n b w0:Nat} {vm:Value} {A:Nat→Nat→Rat} (hm:Vm (Wq b) m n U vm A) (hb1:1≤b) (hw0:m≤w0∨n≤w0) (hgro:1+w0*La.gro b w0≤1000000000) (hgro2:La.gro b w0≤1000000000) (hm1:m≤1000) (hn1:n≤1000) :
  Ct Try.prog 10 [vm] G U M fun v U' D=>∃ (r:Nat) (R:Nat→Nat→Rat) (p:Nat→Nat) (vR vp:Value) (D1 D2:MH),v = .tuple #[vR,vp,.int .i64 0]∧Vmo r n U' D1 vR R∧Lo Vi TInt 1 r U' D2 vp p∧D=D1++D2∧ULe U U' ∧
   EchOf m n r A R p∧∀ i j,i < r→j < n→Szq (R i j) (La.gro b w0):=by
 have hmn:m*n≤1000*1000:=Nat.mul_le_mul hm1 hn1
 have hb:b≤1000000000:=Nat.le_trans (La.gro_le (k:=b) (Nat.zero_le w0)) hgro2
 have hm2:=hm
 obtain ⟨_,rfl,pa,cm,ms,rfl,-⟩:=hm
 refine Qf Try.func10 rfl rfl rfl rfl ?_
 repeat (first|refine Qc ?_|refine Qb fun _=>?_|refine w_al fun _=>?_)
 rename_i b1 b2
 refine Qd rfl rfl rfl rfl rfl rfl (fun _=>QI (r:=(m:Int)) (c:=(n:Int)) (n:=m*n) (p:=pa) (cc:=cm) (by omega)) ?_
 rintro v U' D hU ⟨rfl,rfl,rfl⟩
 repeat (first|refine Qc ?_|refine Qb fun _=>?_|refine w_al fun _=>?_)
 rw [decide_eq_true (Yd (by omega) (by omega))]
 repeat (first|refine Qc ?_|refine Qb fun _=>?_|refine w_al fun _=>?_)
 refine Qd rfl rfl rfl rfl rfl rfl (fun _=>jB (VA jf _ _ _ _ uc hm2) (by omega) (by omega) (by omega) (by omega)) ?_
 rintro v1 U1 D1 hU1 ⟨hg,-⟩
 refine Qg ?_ (perm2 (D:=D1))
 repeat (first|refine Qc ?_|refine Qb fun _=>?_|refine w_al fun _=>?_)
 refine Jp rfl rfl rfl rfl rfl rfl ((JR (X:=(b2,.var (.agg #[.int .i64 0,.int .i64 0,.slice none 0 0]),TM)::(b1,.var (.agg #[.int .i64 (m:Int),.int .i64 (n:Int),.slice pa (m*n) cm]),TM)::M) (cl:=n) hg.w (fun i j hi hj=>hm2.sz hb1 hi hj) (Nat.le_refl n) hb1 hw0 hgro hgro2 (by omega) (by omega)).perm pm) ?_
 rintro v2 U2 M2 hU2 ⟨-,r,R,p,vp,xd,d,D',Dp,rfl,rfl,hg2,⟨pp,cp,pvs,rfl,hrp,ep⟩,hd,hred,hrw,hsz,hsd⟩
 refine Qg (M':=(b2,.var (.agg #[.int .i64 0,.int .i64 0,.slice none 0 0]),TM)::(b1,.var (.agg #[.int .i64 (m:Int),.int .i64 (n:Int),.slice pa (m*n) cm]),TM)::(D'++(Dp++M))) ?_ pm
 have hrm:=hred.le
 have hg3:=hg2.lg (M:=(b2,.var (.agg #[.int .i64 0,.int .i64 0,.slice none 0 0]),TM)::(b1,.var (.agg #[.int .i64 (m:Int),.int .i64 (n:Int),.slice pa (m*n) cm]),TM)::(D'++(Dp++M))) sb
 obtain ⟨Do,F,pg,cg,svs,rfl,rfl,hro,hgs⟩:=hg2
 have hcg:=hro.len
 have hrn:r*n≤1000*1000:=Nat.mul_le_mul (by omega) hn1
 try refine Qa ?_
 refine Qq [0,1,2,3,4,5,7,6,8,9,10] sym (by kernel_rfl) ?_
 try refine Qa ?_
 refine QdP (h:=r) (c:=cg) (by omega) ?_
 try refine Qa ?_
 refine Qd rfl rfl rfl rfl rfl rfl (fun _=>JJ (hg3.take hrm |>.up uc sb) (by omega) (by omega) (by omega)) ?_
 rintro v4 U4 D4 hU4 ⟨⟨_,rfl,p4,c4,vs4,rfl,h4,e4⟩,-⟩
 refine Qg ?_ (perm2 (D:=D4))
 repeat (first|refine Qc ?_|refine Qb fun _=>?_|refine w_al fun _=>?_)
 exact Qe (D4++Dp) sym rfl (.cons (.cell 0 rfl rfl rfl) (.cons (.tmp rfl) (.cons (.tmp rfl) .nil))) uc sb (.inl rfl) ⟨r,R,p,_,_,D4,Dp,rfl,⟨_,rfl,p4,c4,vs4,rfl,h4,e4⟩,⟨pp,cp,pvs,rfl,hrp,ep.up VB uc⟩,rfl,uc,hred.echof,fun i j hi hj=>(hsz i j (by omega) hj).mono (La.gro_le hrw)⟩
theorem vt {m n b:Nat} {vm:Value} {A:Nat→Nat→Rat} (hm:Vm (Wq b) m n U vm A) (hb1:1≤b) (hgro:1+m*La.gro b m≤1000000000) (hgro2:La.gro b m≤1000000000) (hm1:m≤1000) (hn1:n≤1000) :
  Ct Try.prog 10 [vm] G U M fun v U' D=>∃ (r:Nat) (R:Nat→Nat→Rat) (p:Nat→Nat) (vR vp:Value) (D1 D2:MH),v = .tuple #[vR,vp,.int .i64 0]∧Vmo r n U' D1 vR R∧Lo Vi TInt 1 r U' D2 vp p∧D=D1++D2∧ULe U U' ∧
   EchOf m n r A R p∧∀ i j,i < r→j < n→Szq (R i j) (La.gro b m) :=
 yy hm hb1 (.inl (Nat.le_refl m)) hgro hgro2 hm1 hn1
theorem vJ {m n b:Nat} {vm:Value} {A:Nat→Nat→Rat} (hm:Vm (Wq b) m n U vm A) (hb1:1≤b) (hgro:1+m*La.gro b m≤1000000000) (hgro2:La.gro b m≤1000000000) (hm1:m≤1000) (hn1:n≤1000) :
  Ct Try.prog 10 [vm] G U M fun v U' D=>∃ (r:Nat) (R:Nat→Nat→Rat) (p:Nat→Nat) (vR vp:Value),v = .tuple #[vR,vp,.int .i64 0]∧Vm Vq r n U' vR R∧Ls Vi 1 r U' [] vp p∧D=[] ∧
   EchOf m n r A R p∧∀ i j,i < r→j < n→Szq (R i j) (La.gro b m) :=
 (vt hm hb1 hgro hgro2 hm1 hn1).settle.mono fun _ _ _ _ ⟨h1,_,_,⟨r,R,p,vR,vp,_,_,h2,⟨a,h3,h9⟩,h4,h5,_,h6⟩,_,h7,h8⟩ =>
  ⟨r,R,p,vR,vp,h2,⟨a,h3,h9.sett QA h7 (h5 ▸ h8).left⟩,h4.sett VB h7 (h5 ▸ h8).right,h1,h6⟩
end Go.Proofs.Ytahcddpdgpjbnaa
