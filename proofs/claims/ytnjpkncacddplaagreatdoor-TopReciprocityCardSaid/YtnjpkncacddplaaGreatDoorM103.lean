/- Texts of this seat's own, merged: each begins with its own remark. -/
import Derived.Test.YtnjpkncacddplaaGreatDoorM102
import Derived.Test.YtnjpkncacddplaaGreatDoorM8
import Derived.Test.YtnjpkncacddplaaGreatDoorM101
import Derived.Test.YtnjpkncacddplaaGreatDoorM98
import Derived.Test.YtnjpkncacddplaaGreatDoorM100
import Derived.Test.YtnjpkncacddplaaGreatDoorGl7
import Derived.Test.YtnjpkncacddplaaGreatDoorM35
import Derived.Test.YtnjpkncacddplaaGreatDoorM51
/- Walks of numfield: power, Pow, Mul, Sub. -/
namespace Go.Proofs.YtnjpkncacddplaaGreatDoor
open Go.Hp Go.Pl Go.Gx
variable {G:World} {U U':UH} {M:MH}
def isI (z:Int):Option (SV × Mm)→Bool
 | some (.one (.one (.it .i64 n)),_)=>decide (n=z)
 | _=>false
theorem yd (hQ:TabOK Tryz.prog tys tb U) {F:Tr FI} (hF:FOK Tryz.prog tys F) {S:CallF} (hS:CallsOK Tryz.prog U S) {lf fuel f:Nat} {args:List GV} {ys:List Value} {z:Int} (h:isI z (runK F S tb lf fuel f args)=true) (hy:gdens ⟨[],[]⟩ args=some ys) :
  Ct Tryz.prog f ys G U M fun v U' _=>U'=U∧v = .int .i64 z:=by
 unfold isI at h
 split at h
 ·rename_i n m' hr
  refine (QcC hQ hF hS hr hy).mono ?_
  rintro v U' D - ⟨rfl,φ,-,-,h1,-⟩
  have h2:some (Value.int .i64 n)=some v:=h1
  simp only [Option.some.injEq] at h2
  exact ⟨rfl,by rw [← h2,of_decide_eq_true h]⟩
 ·cases h
noncomputable def lensB:Bool:=(List.range 61).all fun n=>Nat.blt n 3 || isI ((Nat.log2 n+1:Nat):Int) (runK fnT noCall tb 10000 100 122 [.one (.it .u64 (n:Int))])
set_option maxRecDepth 100000 in
theorem Qhr:lensB=true:=by kernel_rfl
theorem QiD (hQ:TabOK Tryz.prog tys tb U) {n:Nat} (h3:3≤n) (h60:n≤60):Ct Tryz.prog 122 [.int .u64 (n:Int)] G U M fun v U' _=>U'=U∧v = .int .i64 ((Nat.log2 n+1:Nat):Int):=by
 have h:=List.all_eq_true.1 Qhr n (List.mem_range.2 (by omega))
 simp only [Bool.or_eq_true] at h
 rcases h with h | h
 ·have:=Nat.le_of_ble_eq_true h; omega
 ·exact yd hQ fnOK QK h rfl
theorem QiG:∀ n,n≤60→Nat.log2 n+1≤6:=by decide
theorem rem1 {F:List Int} (h:2≤F.length):remL F [1]=[1]:=by
 have e:trimL [1]=[1]:=by decide
 unfold remL
 rw [e,if_pos (by simp; omega)]
theorem Qgt:BL 1 [1]:=fun k=>by
 cases k with
 | zero=>decide
 | succ k=>rw [Ym (by simp)]; decide
theorem QeC {D:MH} {b:Nat} {x:QV} {z:Int} (hx:x.nrm U [] ((z:Int):Rat)) (hD:[(b,Blk.arr [x.v],TR)].Sublist D):Pz U D (.slice (some ⟨b,0,none⟩) 1 1) [z] :=
 ⟨_,_,_,rfl,Nat.le_refl 1,(RowO.mk (e:=TR) (s:=4) (b:=b) (vs:=[x.v]) rfl (yu rfl) (by show 1≤_; decide)).at hD,fun k y hk=>by
  have hk0:k=0:=by
   have:=(List.getElem?_eq_some_iff.1 hk).1
   simpa using this
  subst hk0
  cases hk
  exact ⟨x,rfl,hx⟩⟩
set_option maxHeartbeats 4000000 in
theorem QbO (hQ:TabOK Tryz.prog tys tb U) {v:Value} {b n:Nat} {F a:List Int} (hr:Rg U b F) (hF:Mon1 F) (ha:Pz U [] v a) (sa:BL 1 a) (hla:a.length≤12) (h3:3≤n) (h60:n≤60) :
  Ct Tryz.prog 91 [.pointer (some ⟨b,0,none⟩),v,.int .i64 (n:Int)] G U M fun v U' D=>Pz U' [] v (pwL F a n (Nat.log2 n+1) [1])∧BL 512 (pwL F a n (Nat.log2 n+1) [1])∧(pwL F a n (Nat.log2 n+1) [1]).length≤12∧D=[]:=by
 have hl:=hF.l1
 have hl2:=hF.l2
 have hL6:=QiG n h60
 obtain ⟨L,hL⟩:∃ L,L=Nat.log2 n+1:=⟨_,rfl⟩
 obtain ⟨p,c,vs,rfl,-⟩:=id ha
 refine Qi Tryz.func91 rfl rfl rfl rfl ?_
 repeat (first|refine Qb ?_|refine Qa fun _=>?_|refine w_al fun _=>?_)
 refine Qd rfl rfl rfl rfl rfl rfl (fun _=>(QbS (z:=1) (by omega) (by omega)).settle) ?_
 rintro v Uh10 D hU ⟨rfl,_,_,⟨xh10,rfl,h10,-⟩,-,-,hs⟩
 replace h10:=h10.sett hs
 clear hs
 repeat (first|refine Qb ?_|refine Qa fun _=>?_|refine w_al fun _=>?_)
 refine JO (vs:=[xh10.v]) sym rfl rfl rfl rfl rfl rfl (yu rfl) rfl rfl rfl rfl rfl rfl (fun b11=>?_)
 have h11:=QeC (D:=[(b11,.arr [xh10.v],TR)]++M) (b:=b11) h10 sb
 refine Qd rfl rfl rfl rfl rfl rfl (fun _=>YP (s:=1) (hr.up uc) hF (h11.up uc sb) Qgt (by decide) (by decide) (by show 1≤_; omega)) ?_
 rintro v12 U12 D12 hU12 ⟨h12,rfl⟩
 rw [rem1 hl] at h12
 rw [List.nil_append]
 obtain ⟨p2,c2,vs2,rfl,-⟩:=id h12
 repeat (first|refine Qb ?_|refine Qa fun _=>?_|refine w_al fun _=>?_)
 refine Qd rfl rfl rfl rfl rfl rfl (fun _=>QiD (TabOK.more hQ uc) h3 h60) ?_
 rintro v15 U15 D15 hU15 ⟨rfl,rfl⟩
 refine YZ (show M.Sublist _ from List.Sublist.trans (List.sublist_cons_self _ _) (List.sublist_append_right D15 _)) ?_
 rw [← hL]
 repeat (first|refine Qb ?_|refine Qa fun _=>?_|refine w_al fun _=>?_)
 try refine Jo (M':=M) (ULe.refl _) sbk ?_
 refine Qx (fun z E U' M'=>∃ (i:Nat) (out:List Int) (q:Option Addr) (d s:Nat),i≤L∧Pz U' [] (.slice q out.length d) out∧pwL F a n i out=pwL F a n L [1]∧BL s out∧1≤s∧s+5≤8*2 ^ (L - i)∧out.length≤12∧E=[(8,.int .i64 ((i:Int) - 1)),(7,.slice q out.length d),(0,.pointer (some ⟨b,0,none⟩)),(1,.slice p a.length c),(2,.int .i64 (n:Int))]∧ULe U15 U'∧M'=M∧z=i) (n0:=L) (E0:=[(8,.int .i64 (((L:Nat):Int) - 1)),(7,.slice p2 ([1]).length c2),(0,.pointer (some ⟨b,0,none⟩)),(1,.slice p a.length c),(2,.int .i64 (n:Int))]) ⟨rfl,rfl,rfl,rfl,rfl,trivial⟩ ⟨L,[1],p2,c2,1,Nat.le_refl L,h12,rfl,Qgt,(by decide),(by rw [Nat.sub_self]; decide),(by decide),rfl,uc,rfl,rfl⟩ ?_
 rintro z E U1 M' ⟨i,out,q,d,s,hi,hout,hpw,sout,h1s,hs,hlo,rfl,hU1,hMM,hzL⟩
 obtain rfl:M=M':=hMM.symm
 try refine Qc ?_
 refine Ql rfl (fun h=>?_) (fun h=>?_)
 ·obtain ⟨i,rfl⟩:∃ k,i=k+1:=⟨i - 1,by omega⟩
  have hi1:(((i+1:Nat):Int) - 1)=(i:Int):=by omega
  rw [hi1]
  have hs2:2 ^ (L - (i+1))≤2 ^ 6:=Nat.pow_le_pow_right (by decide) (by omega)
  have hs3:2 ^ (L - i)=2*2 ^ (L - (i+1)):=by rw [show L - i=(L - (i+1))+1 by omega,Nat.pow_succ,Nat.mul_comm]
  have hlm := @qw out out
  have sm:=jG sout sout (by omega)
  have hsq:=jE hF.small sm (by have:=JK (co (mulL out out)) (mulL out out).length; rw [QS]; omega)
  have hsl:=Vo (F:=F) (f:=mulL out out) (by omega) hF.lead
  repeat (first|refine Qb ?_|refine Qa fun _=>?_|refine w_al fun _=>?_)
  refine Qd rfl rfl rfl rfl rfl rfl (fun _=>yy (hr.up uc) hF (hout.up uc (List.nil_sublist _)) (hout.up uc (List.nil_sublist _)) sout sout h1s h1s (by omega) (by omega)) ?_
  rintro v24 U24 D24 hU24 ⟨h24,rfl⟩
  rw [List.nil_append]
  obtain ⟨p3,c3,vs3,rfl,-⟩:=id h24
  repeat (first|refine Qb ?_|refine Qa fun _=>?_|refine w_al fun _=>?_)
  refine sl_y (vK (n:=i) rfl rfl rfl rfl (by show i≤64; omega)) rfl rfl rfl rfl ?_
  repeat (first|refine Qb ?_|refine Qa fun _=>?_|refine w_al fun _=>?_)
  refine sl_y (QhF (k := .i64) (m:=n / 2 ^ i) rfl rfl rfl (by rw [Int.natCast_ediv]; rfl) (by have:=Nat.div_le_self n (2 ^ i); simp only [kmax]; omega)) rfl rfl rfl rfl ?_
  repeat (first|refine Qb ?_|refine Qa fun _=>?_|refine w_al fun _=>?_)
  refine Ql rfl (fun h=>?_) (fun h=>?_)
  ·have hodd:n / 2 ^ i % 2=1:=by omega
   have hlm2 := @qw (remL F (mulL out out)) a
   have sm2:=jG hsq sa (by omega)
   have hsq2:=jE hF.small sm2 (by have:=JK (co (mulL (remL F (mulL out out)) a)) (mulL (remL F (mulL out out)) a).length; rw [QS]; omega)
   have hsl2:=Vo (F:=F) (f:=mulL (remL F (mulL out out)) a) (by omega) hF.lead
   repeat (first|refine Qb ?_|refine Qa fun _=>?_|refine w_al fun _=>?_)
   refine Qd rfl rfl rfl rfl rfl rfl (fun _=>yy (hr.up uc) hF (h24.up uc (List.nil_sublist _)) (ha.up uc (List.nil_sublist _)) hsq sa (by omega) (by decide) (by omega) (by omega)) ?_
   rintro v33 U33 D33 hU33 ⟨h33,rfl⟩
   rw [List.nil_append]
   obtain ⟨p4,c4,vs4,rfl,-⟩:=id h33
   repeat (first|refine Qb ?_|refine Qa fun _=>?_|refine w_al fun _=>?_)
   exact Qo (E':=[(8,.int .i64 ((i:Int) - 1)),(7,.slice p4 (remL F (mulL (remL F (mulL out out)) a)).length c4),(0,.pointer (some ⟨b,0,none⟩)),(1,.slice p a.length c),(2,.int .i64 (n:Int))]) (m:=i) ⟨rfl,rfl,rfl,rfl,rfl,trivial⟩ (by omega) ⟨i,remL F (mulL (remL F (mulL out out)) a),p4,c4,s+s+1+1+1+1+1,by omega,h33,(by rw [← hpw]; show _=pwL F a n i (if n / 2 ^ i % 2=1 then _ else _); rw [if_pos hodd]),hsq2.mono (by omega),by omega,by omega,by omega,rfl,uc,rfl,rfl⟩
  ·have hev:¬ n / 2 ^ i % 2=1:=by omega
   repeat (first|refine Qb ?_|refine Qa fun _=>?_|refine w_al fun _=>?_)
   exact Qo (E':=[(8,.int .i64 ((i:Int) - 1)),(7,.slice p3 (remL F (mulL out out)).length c3),(0,.pointer (some ⟨b,0,none⟩)),(1,.slice p a.length c),(2,.int .i64 (n:Int))]) (m:=i) ⟨rfl,rfl,rfl,rfl,rfl,trivial⟩ (by omega) ⟨i,remL F (mulL out out),p3,c3,s+s+1+1,by omega,h24,(by rw [← hpw]; show _=pwL F a n i (if n / 2 ^ i % 2=1 then _ else _); rw [if_neg hev]),hsq.mono (by omega),by omega,by omega,by omega,rfl,uc,rfl,rfl⟩
 obtain rfl:i=0:=by omega
 obtain rfl:out=pwL F a n L [1]:=hpw
 have hs6:2 ^ (L - 0)≤2 ^ 6:=Nat.pow_le_pow_right (by decide) (by omega)
 repeat (first|refine Qb ?_|refine Qa fun _=>?_|refine w_al fun _=>?_)
 refine Qg [] sym rfl (.cons (.tmp rfl) .nil) uc sb (.inl rfl) ⟨?_,sout.mono (by omega),hlo,rfl⟩
 exact hout
set_option maxHeartbeats 4000000 in
theorem QfI (hQ:TabOK Tryz.prog tys tb U) {v w:Value} {n:Nat} {F a:List Int} (hf:Vfld U w F) (hF:Mon1 F) (ha:Pz U [] v a) (sa:BL 1 a) (hla:a.length≤12) (h3:3≤n) (h60:n≤60) :
  Ct Tryz.prog 31 [w,v,.int .i64 (n:Int)] G U M fun v U' D=>∃ r,v = .tuple #[r,.int .i64 0]∧Pz U' [] r (pwL F a n (Nat.log2 n+1) [1])∧BL 512 (pwL F a n (Nat.log2 n+1) [1])∧(pwL F a n (Nat.log2 n+1) [1]).length≤12∧D=[]:=by
 obtain ⟨p,c,vs,rfl,-⟩:=id ha
 obtain ⟨pk,ck,rfl,hz⟩:=hf
 refine Qi Tryz.func31 rfl rfl rfl rfl ?_
 repeat (first|refine Qb ?_|refine Qa fun _=>?_|refine w_al fun _=>?_)
 rename_i b3
 refine Qd rfl rfl rfl rfl rfl rfl (fun _=>VT (F:=F) ⟨pk,ck,rfl,hz.up KeptC.out uc (List.Sublist.refl _)⟩ hF) ?_
 rintro v13 U13 D13 hU13 ⟨b,rfl,hr,rfl⟩
 rw [List.nil_append]
 repeat (first|refine Qb ?_|refine Qa fun _=>?_|refine w_al fun _=>?_)
 refine Ql rfl (fun h=>absurd rfl h) (fun _=>?_)
 repeat (first|refine Qb ?_|refine Qa fun _=>?_|refine w_al fun _=>?_)
 refine QL rfl rfl (fun h=>absurd h (by omega)) (fun _=>?_)
 repeat (first|refine Qb ?_|refine Qa fun _=>?_|refine w_al fun _=>?_)
 refine Ql rfl (fun h=>absurd h (by omega)) (fun _=>?_)
 repeat (first|refine Qb ?_|refine Qa fun _=>?_|refine w_al fun _=>?_)
 refine Ql rfl (fun _=>?_) (fun h=>absurd h (by omega))
 repeat (first|refine Qb ?_|refine Qa fun _=>?_|refine w_al fun _=>?_)
 refine Qd rfl rfl rfl rfl rfl rfl (fun _=>QbO (TabOK.more hQ uc) (hr.up uc) hF (ha.up uc (List.nil_sublist _)) sa hla h3 h60) ?_
 rintro v30 U30 D30 hU30 ⟨h30,hb,hln,rfl⟩
 rw [List.nil_append]
 obtain ⟨p4,c4,vs4,rfl,-⟩:=id h30
 repeat (first|refine Qb ?_|refine Qa fun _=>?_|refine w_al fun _=>?_)
 exact Qg [] sym rfl (.cons (.tmp rfl) (.cons (.tmp rfl) .nil)) uc sb (.inl rfl) ⟨_,rfl,h30,hb,hln,rfl⟩
set_option maxHeartbeats 4000000 in
theorem Qgs {v u w:Value} {s t:Nat} {F x y:List Int} (hf:Vfld U w F) (hF:Mon1 F) (hx:Pz U M v x) (hy:Pz U M u y) (sx:BL s x) (sy:BL t y) (h1s:1≤s) (h1t:1≤t) (hs:s+t≤90000) (hn:x.length+y.length≤F.length+30) :
  Ct Tryz.prog 32 [w,v,u] G U M fun v U' D=>∃ r,v = .tuple #[r,.int .i64 0]∧Pz U' [] r (remL F (mulL x y))∧D=[]:=by
 obtain ⟨p,c,vs,rfl,-⟩:=id hx
 obtain ⟨q,d,ws,rfl,-⟩:=id hy
 obtain ⟨pk,ck,rfl,hz⟩:=hf
 refine Qi Tryz.func32 rfl rfl rfl rfl ?_
 repeat (first|refine Qb ?_|refine Qa fun _=>?_|refine w_al fun _=>?_)
 rename_i b3
 refine Qd rfl rfl rfl rfl rfl rfl (fun _=>VT (F:=F) ⟨pk,ck,rfl,hz.up KeptC.out uc (List.Sublist.refl _)⟩ hF) ?_
 rintro v13 U13 D13 hU13 ⟨b,rfl,hr,rfl⟩
 rw [List.nil_append]
 repeat (first|refine Qb ?_|refine Qa fun _=>?_|refine w_al fun _=>?_)
 refine Ql rfl (fun h=>absurd rfl h) (fun _=>?_)
 repeat (first|refine Qb ?_|refine Qa fun _=>?_|refine w_al fun _=>?_)
 refine Qd rfl rfl rfl rfl rfl rfl (fun _=>yy (hr.up uc) hF (hx.up uc sb) (hy.up uc sb) sx sy h1s h1t hs hn) ?_
 rintro v30 U30 D30 hU30 ⟨h30,rfl⟩
 rw [List.nil_append]
 obtain ⟨p4,c4,vs4,rfl,-⟩:=id h30
 repeat (first|refine Qb ?_|refine Qa fun _=>?_|refine w_al fun _=>?_)
 exact Qg [] sym rfl (.cons (.tmp rfl) (.cons (.tmp rfl) .nil)) uc sb (.inl rfl) ⟨_,rfl,h30,rfl⟩
theorem Qdi {a b:List Int} {s:Nat} (sa:BL s a) (sb':BL s b):BL (s+1) (subL a b):=fun k=>by
 unfold subL
 rw [Yp,Ys]
 split
 ·have h1:=sa k
  have h2:=sb' k
  rw [Nat.pow_succ]; omega
 ·exact Nat.pow_pos (by decide)
theorem Qbg {a b:List Int}:(subL a b).length≤max a.length b.length:=by
 unfold subL
 rw [QS]
 refine Nat.le_trans (JK _ _) ?_
 simp
set_option maxHeartbeats 4000000 in
theorem QeR {v u w:Value} {s:Nat} {F x y:List Int} (hf:Vfld U w F) (hF:Mon1 F) (hx:Pz U [] v x) (hy:Pz U [] u y) (sx:BL s x) (sy:BL s y) (h1s:1≤s) (hs:s≤90000) (hxl:x.length≤12) (hyl:y.length≤12) :
  Ct Tryz.prog 34 [w,v,u] G U M fun v U' D=>∃ r,v = .tuple #[r,.int .i64 0]∧Pz U' [] r (remL F (subL x y))∧D=[]:=by
 have hsl := @Qbg x y
 have hl:=hF.l1
 obtain ⟨p,c,vs,rfl,-⟩:=id hx
 obtain ⟨q,d,ws,rfl,-⟩:=id hy
 obtain ⟨pk,ck,rfl,hz⟩:=hf
 refine Qi Tryz.func34 rfl rfl rfl rfl ?_
 repeat (first|refine Qb ?_|refine Qa fun _=>?_|refine w_al fun _=>?_)
 rename_i b3
 refine Qd rfl rfl rfl rfl rfl rfl (fun _=>VT (F:=F) ⟨pk,ck,rfl,hz.up KeptC.out uc (List.Sublist.refl _)⟩ hF) ?_
 rintro v13 U13 D13 hU13 ⟨b,rfl,hr,rfl⟩
 rw [List.nil_append]
 repeat (first|refine Qb ?_|refine Qa fun _=>?_|refine w_al fun _=>?_)
 refine Ql rfl (fun h=>absurd rfl h) (fun _=>?_)
 repeat (first|refine Qb ?_|refine Qa fun _=>?_|refine w_al fun _=>?_)
 refine Qd rfl rfl rfl rfl rfl rfl (fun _=>QeX (hx.up uc (List.nil_sublist _)) (hy.up uc (List.nil_sublist _)) sx sy h1s (by omega) (by omega) (by omega)) ?_
 rintro v21 U21 D21 hU21 ⟨h21,rfl⟩
 rw [List.nil_append]
 obtain ⟨p3,c3,vs3,rfl,-⟩:=id h21
 repeat (first|refine Qb ?_|refine Qa fun _=>?_|refine w_al fun _=>?_)
 refine Qd rfl rfl rfl rfl rfl rfl (fun _=>YP (hr.up uc) hF (h21.up uc (List.nil_sublist _)) (Qdi sx sy) (by omega) (by omega) (by omega)) ?_
 rintro v30 U30 D30 hU30 ⟨h30,rfl⟩
 rw [List.nil_append]
 obtain ⟨p4,c4,vs4,rfl,-⟩:=id h30
 repeat (first|refine Qb ?_|refine Qa fun _=>?_|refine w_al fun _=>?_)
 exact Qg [] sym rfl (.cons (.tmp rfl) (.cons (.tmp rfl) .nil)) uc sb (.inl rfl) ⟨_,rfl,h30,rfl⟩
end Go.Proofs.YtnjpkncacddplaaGreatDoor

/- Walks of gausssum and of topGauss. -/
namespace Go.Proofs.YtnjpkncacddplaaGreatDoor
open Go.Hp Go.Pl Go.Gx
variable {G:World} {U U':UH} {M:MH}
theorem Qdh {p:Nat}:∀ a k,0≤gs p a k∧gs p a k≤a
 | 0,_=>⟨Int.le_refl 0,Int.le_refl 0⟩
 | a+1,k=>by
  have:=Qdh (p:=p) a k
  show 0≤gs p a k+_∧gs p a k+_≤_
  split<;>omega
theorem Jy {p:Nat}:(phiL p).length=p:=by simp [phiL]
theorem QcB {p:Nat} (hp:P13 p):Mon1 (phiL p):=by
 have h3:3≤p∧p≤13∧p % 2=1:=by rcases hp with rfl | rfl | rfl | rfl | rfl<;>decide
 refine ⟨by rw [Jy]; omega,by rw [Jy]; omega,?_,fun k=>?_⟩
 ·rw [Jy]
  unfold phiL
  rw [Ys,if_pos (by omega),if_pos (by omega)]
 ·unfold phiL
  rw [Ys]
  split
  ·split<;>decide
  ·decide
theorem Qbw (hQ:TabOK Tryz.prog tys tb U) {p n:Nat} (hp:P13 p) (hn:n=2*p) :
  Ct Tryz.prog 89 [.int .i64 (n:Int)] G U M fun v U' D=>∃ q c,v = .tuple #[.agg #[.slice q p c],.int .i64 0]∧Ls Zn 2 p U' [] (.slice q p c) (co (phiL p))∧D=[]:=by
 subst hn
 rcases hp with rfl | rfl | rfl | rfl | rfl
 ·exact ym (Qfc hQ) rfl (by kernel_rfl)
 ·exact ym (QdA hQ) rfl (by kernel_rfl)
 ·exact ym (Qed hQ) rfl (by kernel_rfl)
 ·exact ym (QdX hQ) rfl (by kernel_rfl)
 ·exact ym (Qeq hQ) rfl (by kernel_rfl)
def dsc (p:Nat):Int:=if p % 4=3 then -(p:Int) else p
def exI (p:Nat):Int:=((p - 1) / 2:Nat)
def chv (d:Lv) (p:Nat):Value := .agg #[.int .i64 (p:Int),.slice (some ⟨d.b,d.o+0,none⟩) 1 (d.c - 0)]
def chE (d:Lv) (p:Nat):Nat × Blk × Nat:=ent d (gbI TInt (exI p)) [.int .i64 (exI p)]
theorem QhM (hQ:TabOK Tryz.prog tys tb U) {p:Nat} (hp:P13 p) :
  Ct Tryz.prog 87 [.int .i64 (dsc p)] G U M fun v U' D=>U'=U∧∃ d J,InvB d (gbI TInt (exI p)) [.int .i64 (exI p)]∧v = .tuple #[chv d p,.int .i64 0]∧D=chE d p::J:=by
 rcases hp with rfl | rfl | rfl | rfl | rfl
 ·exact yF (Qfr hQ) rfl (by kernel_rfl)
 ·exact yF (QfK hQ) rfl (by kernel_rfl)
 ·exact yF (Qgd hQ) rfl (by kernel_rfl)
 ·exact yF (Qei hQ) rfl (by kernel_rfl)
 ·exact yF (QdL hQ) rfl (by kernel_rfl)
def xarg (p:Nat):GV := .agg [.it .i64 (p:Int),.sl 0 0 0 1]
def vlit (p a:Nat):SV:=if a=0 then .tup [.agg [.bo true,.it .i64 0,.it .i64 0],.one (.it .i64 0)] else if twi p a=0 then .tup [.agg [.bo false,.it .i64 0,.it .i64 1],.one (.it .i64 0)] else .tup [.agg [.bo false,.it .i64 1,.it .i64 2],.one (.it .i64 0)]
def vval (p a:Nat):Value:=if a=0 then .tuple #[.agg #[.bool true,.int .i64 0,.int .i64 0],.int .i64 0] else if twi p a=0 then .tuple #[.agg #[.bool false,.int .i64 0,.int .i64 1],.int .i64 0] else .tuple #[.agg #[.bool false,.int .i64 1,.int .i64 2],.int .i64 0]
noncomputable def gaussB:Bool:=[3,5,7,11,13].all fun p=>chkX TInt (.tup [.one (.it .i64 ((2*p:Nat):Int)),.one (.it .i64 0)]) (exI p) (callK fnT noCall tb 10000 100 138 0 [xarg p] (m1I TInt (exI p))) &&
 (List.range p).all fun a=>chkX TInt (vlit p a) (exI p) (callK fnT noCall tb 10000 100 139 0 [xarg p,.one (.it .i64 (a:Int))] (m1I TInt (exI p)))
set_option maxRecDepth 100000 in
theorem vy:gaussB=true:=by kernel_rfl
theorem QdY (hQ:TabOK Tryz.prog tys tb U) {p:Nat} (hp:P13 p) {d:Lv} (hd:InvB d (gbI TInt (exI p)) [.int .i64 (exI p)]) (hM:[chE d p].Sublist M) :
  Ct Tryz.prog 138 [chv d p] G U M fun v U' _=>v = .tuple #[.int .i64 ((2*p:Nat):Int),.int .i64 0]∧U'=U:=by
 have h:=List.all_eq_true.1 vy p (by rcases hp with rfl | rfl | rfl | rfl | rfl<;>simp)
 simp only [Bool.and_eq_true] at h
 exact Qbi hQ fnOK QK h.1 hd rfl (fun φ=>rfl) hM
theorem Qdy (hQ:TabOK Tryz.prog tys tb U) {p a:Nat} (hp:P13 p) (ha:a < p) {d:Lv} (hd:InvB d (gbI TInt (exI p)) [.int .i64 (exI p)]) (hM:[chE d p].Sublist M) :
  Ct Tryz.prog 139 [chv d p,.int .i64 (a:Int)] G U M fun v U' _=>v=vval p a∧U'=U:=by
 have h:=List.all_eq_true.1 vy p (by rcases hp with rfl | rfl | rfl | rfl | rfl<;>simp)
 simp only [Bool.and_eq_true] at h
 have h2:=List.all_eq_true.1 h.2 a (List.mem_range.2 ha)
 exact Qbi hQ fnOK QK h2 hd rfl (fun φ=>by unfold vlit vval; split<;>(try split)<;>rfl) hM
theorem QdZ {t:Bool} {x y:Int} {n m k:Nat} (hx:x=(k:Int)) (hy:y=(m:Int)) (hm:0 < m) (hk:k≤10) (hn:n≤100) :
  Ct Tryz.prog 141 [.agg #[.bool t,.int .i64 x,.int .i64 y],.int .i64 (n:Int)] G U M fun v U' D=>v = .int .i64 ((k*(n / m):Nat):Int)∧U=U'∧D=[]:=by
 subst hx hy
 have hq:=Nat.div_le_self n m
 have hb:k*(n / m)≤10*100:=Nat.mul_le_mul hk (by omega)
 refine Qi Tryz.func141 rfl rfl rfl rfl ?_
 repeat (first|refine Qb ?_|refine Qa fun _=>?_|refine w_al fun _=>?_)
 rename_i b2
 refine Yf [7] [0,1,2,3,4,5,6,7] sym (by kernel_rfl) ?_
 repeat (first|refine Qb ?_|refine Qa fun _=>?_|refine w_al fun _=>?_)
 refine sl_y (qR (m:=n) (n:=m) (q:=n / m) rfl rfl rfl rfl rfl (by simp only [kmax]; omega) hm rfl) rfl rfl rfl rfl ?_
 have e:(k:Int)*((n / m:Nat):Int)=((k*(n / m):Nat):Int):=(Int.natCast_mul _ _).symm
 repeat (first|refine Qb ?_|refine Qa fun _=>?_|refine w_al fun _=>?_)
 refine Qg [] sym rfl (.cons (.tmp rfl) .nil) uc sb (.inl rfl) ⟨?_,rfl,rfl⟩
 show Value.int .i64 ((k:Int)*((n / m:Nat):Int))=_
 rw [e]
theorem QhJ {n t:Nat} {p:Option Addr} {us:List Value} {g:Nat→Int} {D X:MH} (hrow:RowO TInt 1 D p n n us) (hel:El Vz U us g) (ht:t≤1000000) (hn:0 < n) (hb:∀ k,0≤g k∧g k≤1000) :
  Cx Tryz.prog 140 [.slice p n n,.int .i64 (t:Int)] G U (D++X) fun v U' M'=>v = .tuple #[]∧U'=U∧∃ us' D',M'=D'++X∧RowO TInt 1 D' p n n us'∧El Vz U us' (fun k=>if k=t % n then g k+1 else g k):=by
 have hlt:=Nat.mod_lt t hn
 have hA:=hrow.at (U:=U) (M:=D++X) sb
 obtain ⟨v1,hv1⟩:=hA.at hlt
 obtain ⟨rfl,hz⟩:=hel _ _ hv1
 have hbb:=hb (t % n)
 have hn64:=hrow.len.2.2
 refine yG Tryz.func140 rfl rfl rfl rfl ?_
 repeat (first|refine Qb ?_|refine Qa fun _=>?_|refine w_al fun _=>?_)
 refine sl_y (qe (m:=t) (n:=n) (q:=Nat.mod t n) rfl rfl rfl rfl rfl (by simp only [kmax]; omega) hn rfl) rfl rfl rfl rfl ?_
 repeat (first|refine Qb ?_|refine Qa fun _=>?_|refine w_al fun _=>?_)
 refine sl_y (QC sym rfl rfl rfl rfl rfl rfl (hA.lt hv1) (hA.get _ _ hv1).1) rfl rfl rfl rfl ?_; refine sl_y (vc sym rfl rfl rfl rfl hA hv1 rfl) rfl rfl rfl rfl ?_
 repeat (first|refine Qb ?_|refine Qa fun _=>?_|refine w_al fun _=>?_)
 refine Vk (j:=t % n) hlt (hrow.some hn) ?_
 refine Yr (v := .int .i64 (g (t % n)+1)) (X:=X) hrow (List.Perm.refl _) hlt (fun D4 hr4=>?_)
 repeat (first|refine Qb ?_|refine Qa fun _=>?_|refine w_al fun _=>?_)
 refine vQ (M':=D4++X) sym rfl .nil uc (List.Sublist.refl _) (.inr rfl) ⟨rfl,rfl,_,D4,rfl,hr4,Qce (fun k x hk hne=>?_) ⟨by rw [if_pos rfl],by rw [if_pos rfl]; omega⟩⟩
 rw [if_neg hne]
 exact hel k x hk
theorem Qbd {v w:Value} {s:Nat} {F a:List Int} (hf:Vfld U w F) (hF:Mon1 F) (ha:Pz U M v a) (sa:BL s a) (h1s:1≤s) (hs:s≤100000) (hn:a.length≤F.length+30) :
  Ct Tryz.prog 198 [w,v] G U M fun v U' D=>∃ r,v = .tuple #[r,.int .i64 0]∧Pz U' [] r (remL F a)∧D=[]:=by
 obtain ⟨p,c,vs,rfl,-⟩:=id ha
 obtain ⟨pk,ck,rfl,hz⟩:=hf
 refine Qi Tryz.func198 rfl rfl rfl rfl ?_
 repeat (first|refine Qb ?_|refine Qa fun _=>?_|refine w_al fun _=>?_)
 rename_i b3
 refine Qd rfl rfl rfl rfl rfl rfl (fun _=>VT (F:=F) ⟨pk,ck,rfl,hz.up KeptC.out uc (List.Sublist.refl _)⟩ hF) ?_
 rintro v13 U13 D13 hU13 ⟨b,rfl,hr,rfl⟩
 rw [List.nil_append]
 repeat (first|refine Qb ?_|refine Qa fun _=>?_|refine w_al fun _=>?_)
 refine Ql rfl (fun h=>absurd rfl h) (fun _=>?_)
 repeat (first|refine Qb ?_|refine Qa fun _=>?_|refine w_al fun _=>?_)
 refine Qd rfl rfl rfl rfl rfl rfl (fun _=>YP (hr.up uc) hF (ha.up uc sb) sa h1s hs hn) ?_
 rintro v30 U30 D30 hU30 ⟨h30,rfl⟩
 rw [List.nil_append]
 obtain ⟨p4,c4,vs4,rfl,-⟩:=id h30
 repeat (first|refine Qb ?_|refine Qa fun _=>?_|refine w_al fun _=>?_)
 exact Qg [] sym rfl (.cons (.tmp rfl) (.cons (.tmp rfl) .nil)) uc sb (.inl rfl) ⟨_,rfl,h30,rfl⟩
theorem Qfz {p k:Nat}:co (gaL p) k=if k < 2*p then gs p p k else 0:=Ys
theorem QiC {p:Nat} (hp:P13 p):BL 1 (gaL p):=fun k=>by
 have h:=Qdh (p:=p) p k
 have h3:p≤13:=by rcases hp with rfl | rfl | rfl | rfl | rfl<;>decide
 rw [Qfz]
 split<;>omega
set_option maxHeartbeats 4000000 in
theorem QfT (hQ:TabOK Tryz.prog tys tb U) {p c:Nat} {q:Option Addr} {us:List Value} (hp:P13 p) (rw1:RowAt U M 1 q (2*p) us) (el:El Vz U us (gs p p)) :
  Ct Tryz.prog 142 [.slice q (2*p) c] G U M fun v U' D=>Pz U' [] v (gauL p)∧D=[]:=by
 have h3:3≤p∧p≤13:=by rcases hp with rfl | rfl | rfl | rfl | rfl<;>decide
 obtain ⟨n,hn⟩:∃ n,n=2*p:=⟨_,rfl⟩
 rw [← hn] at rw1 ⊢
 refine Qi Tryz.func142 rfl rfl rfl rfl ?_
 repeat (first|refine Qb ?_|refine Qa fun _=>?_|refine w_al fun _=>?_)
 refine Qd rfl rfl rfl rfl rfl rfl (fun _=>Qbw (TabOK.more hQ uc) hp hn) ?_
 rintro v13 U13 D13 hU13 ⟨qf,cF,rfl,hfz,rfl⟩
 rw [List.nil_append]
 repeat (first|refine Qb ?_|refine Qa fun _=>?_|refine w_al fun _=>?_)
 rename_i b3
 try refine Jo (M':=(b3,.var (.agg #[.slice qf p cF]),75)::(([])++M)) (ULe.refl _) sbk ?_
 refine Qx (fun z E U' M'=>∃ (i:Nat) (Q:Option Addr) (C:Nat) (ws:List Value) (D:MH),i≤n∧RowO TR 4 D Q i C ws∧El Vp U' ws (gs p p)∧E=[(18,.int .i64 (i:Int)),(17,.int .i64 (n:Int)),(16,.slice q n c),(5,.slice Q i C),(3,.pointer (some ⟨b3,0,none⟩))]∧ULe U13 U'∧M'=(b3,.var (.agg #[.slice qf p cF]),75)::(D++M)∧z=n - i) (n0:=n - 0) (E0:=[(18,.int .i64 ((0:Nat):Int)),(17,.int .i64 (n:Int)),(16,.slice q n c),(5,.slice none 0 0),(3,.pointer (some ⟨b3,0,none⟩))]) ⟨rfl,rfl,rfl,rfl,rfl,trivial⟩ ⟨0,none,0,[],[],by omega,RowO.nil,El.nil,rfl,uc,rfl,rfl⟩ ?_
 rintro z E U1 M' ⟨i,Q,C,ws,D,hi,hrow,hel,rfl,hU1,rfl,rfl⟩
 try refine Qc ?_
 refine Ql rfl (fun h=>?_) (fun h=>?_)
 ·have hin:i < n:=by omega
  obtain ⟨v1,hv1⟩:=rw1.at hin
  obtain ⟨rfl,hz⟩:=el _ _ hv1
  have hb:=Qdh (p:=p) p i
  repeat (first|refine Qb ?_|refine Qa fun _=>?_|refine w_al fun _=>?_)
  refine sl_y (QC sym rfl rfl rfl rfl rfl rfl ((rw1.up uc sb).lt hv1) ((rw1.up uc sb).get _ _ hv1).1) rfl rfl rfl rfl ?_; refine sl_y (vc sym rfl rfl rfl rfl (rw1.up uc sb) hv1 rfl) rfl rfl rfl rfl ?_
  repeat (first|refine Qb ?_|refine Qa fun _=>?_|refine w_al fun _=>?_)
  refine Qd rfl rfl rfl rfl rfl rfl (fun _=>(yJ (z:=gs p p i) (by omega) (by omega)).settle) ?_
  rintro v Uh24 D hU ⟨rfl,_,_,⟨xh24,rfl,h24,-⟩,-,-,hs⟩
  replace h24:=h24.sett hs
  clear hs
  repeat (first|refine Qb ?_|refine Qa fun _=>?_|refine w_al fun _=>?_)
  refine Qd rfl rfl rfl rfl rfl rfl (fun _=>(vf (h24.rep.up uc (List.nil_sublist _)) (h24.le (k:=1) (by unfold Sz; omega) (by omega))).settle) ?_
  rintro v Uh25 D hU ⟨rfl,_,_,⟨xh25,rfl,h25,-⟩,-,-,hs⟩
  replace h25:=h25.sett hs
  clear hs
  repeat (first|refine Qb ?_|refine Qa fun _=>?_|refine w_al fun _=>?_)
  refine QiB hrow (X:=(b3,.var (.agg #[.slice qf p cF]),75)::M) pgj (fun b P2 C2 D2 hr2=>?_)
  refine Qm (M':=(b3,.var (.agg #[.slice qf p cF]),75)::(D2++M)) ?_ pgj
  try refine Qc ?_
  exact Qo (E':=[(18,.int .i64 ((i:Int)+1)),(17,.int .i64 (n:Int)),(16,.slice q n c),(5,.slice P2 (i+1) C2),(3,.pointer (some ⟨b3,0,none⟩))]) (m:=n - (i+1)) ⟨rfl,rfl,rfl,rfl,rfl,trivial⟩ (by omega) ⟨i+1,P2,C2,_,D2,by omega,hr2,QgJ hrow.len.1 (hel.up Jr uc) ⟨xh25,rfl,h25⟩,rfl,uc,rfl,rfl⟩
 obtain rfl:n=i:=by omega
 have hgl:(gaL p).length=n:=by simp [gaL,hn]
 have hpz:Pz U1 ((b3,.var (.agg #[.slice qf p cF]),75)::(D++M)) (.slice Q n C) (gaL p):=⟨Q,C,ws,by rw [hgl],by rw [hgl]; exact hrow.len.2.1,by rw [hgl]; exact hrow.at sb,fun k x hk=>by
  have hk2:=(List.getElem?_eq_some_iff.1 hk).1
  rw [Qfz,if_pos (by have:=hrow.len.1; omega)]
  exact hel k x hk⟩
 repeat (first|refine Qb ?_|refine Qa fun _=>?_|refine w_al fun _=>?_)
 refine Qd rfl rfl rfl rfl rfl rfl (fun _=>Qbd (F:=phiL p) ⟨qf,cF,by rw [Jy],by rw [Jy]; exact hfz.up KeptC.out uc (List.Sublist.refl _)⟩ (QcB hp) (hpz.up uc sb) (QiC hp) (by decide) (by decide) (by rw [hgl,Jy]; omega)) ?_
 rintro v32 U32 D32 hU32 ⟨r,rfl,hr,rfl⟩
 rw [List.nil_append]
 obtain ⟨p4,c4,vs4,rfl,-⟩:=id hr
 repeat (first|refine Qb ?_|refine Qa fun _=>?_|refine w_al fun _=>?_)
 refine Qg [] sym rfl (.cons (.tmp rfl) .nil) uc sb (.inl rfl) ⟨?_,rfl⟩
 exact hr
theorem Qhk {p a:Nat} (hp:P13 p):∃ (z:Bool) (k m:Nat),vval p a = .tuple #[.agg #[.bool z,.int .i64 (k:Int),.int .i64 (m:Int)],.int .i64 0]∧(z=true↔a=0)∧(a≠0→0 < m∧k≤10∧k*(2*p / m)=twi p a):=by
 unfold vval
 by_cases ha:a=0
 ·exact ⟨true,0,0,by rw [if_pos ha]; rfl,⟨fun _=>ha,fun _=>rfl⟩,fun h=>absurd ha h⟩
 ·by_cases ht:twi p a=0
  ·exact ⟨false,0,1,by rw [if_neg ha,if_pos ht]; rfl,⟨(fun h=>by cases h),fun h=>absurd h ha⟩,fun _=>⟨by decide,by decide,by rw [ht,Nat.zero_mul]⟩⟩
  ·refine ⟨false,1,2,by rw [if_neg ha,if_neg ht]; rfl,⟨(fun h=>by cases h),fun h=>absurd h ha⟩,fun _=>⟨by decide,by decide,?_⟩⟩
   have:twi p a=p:=by
    unfold twi at ht ⊢
    split
    ·rename_i h1; rw [if_pos h1] at ht; exact absurd rfl ht
    ·rfl
   rw [this,Nat.one_mul]; omega
set_option maxHeartbeats 4000000 in
theorem QdP (hQ:TabOK Tryz.prog tys tb U) {p:Nat} (hp:P13 p) {d:Lv} (hd:InvB d (gbI TInt (exI p)) [.int .i64 (exI p)]) (hM:[chE d p].Sublist M) :
  Ct Tryz.prog 88 [chv d p] G U M fun v U' D=>∃ r,v = .tuple #[r,.int .i64 ((2*p:Nat):Int),.int .i64 0]∧Pz U' [] r (gauL p)∧D=[]:=by
 have h3:3≤p∧p≤13:=by rcases hp with rfl | rfl | rfl | rfl | rfl<;>decide
 unfold chv
 refine Qi Tryz.func88 rfl rfl rfl rfl ?_
 repeat (first|refine Qb ?_|refine Qa fun _=>?_|refine w_al fun _=>?_)
 rename_i b1
 refine Qd rfl rfl rfl rfl rfl rfl (fun _=>QdY (TabOK.more hQ uc) hp hd (hM.trans sb)) ?_
 rintro v13 U13 D13 hU13 ⟨rfl,rfl⟩
 refine YZ (List.sublist_append_right D13 _) ?_
 obtain ⟨n,hn⟩:∃ n,n=2*p:=⟨_,rfl⟩
 rw [← hn]
 repeat (first|refine Qb ?_|refine Qa fun _=>?_|refine w_al fun _=>?_)
 refine Ql rfl (fun h=>absurd rfl h) (fun _=>?_)
 repeat (first|refine Qb ?_|refine Qa fun _=>?_|refine w_al fun _=>?_)
 refine JA (m:=n) (n:=n) sym rfl rfl rfl rfl rfl rfl rfl rfl rfl (Nat.le_refl n) (by omega) (by omega) rfl rfl rfl rfl (fun b8=>?_)
 have hrow:=Yj (e:=TInt) (s:=1) (b:=b8) (n:=n) (z := .int .i64 0) rfl (by omega)
 have hel0:El Vz U13 (List.replicate n (Value.int .i64 0)) (gs p 0):=fun k x hk=>by
  rw [List.getElem?_replicate] at hk
  split at hk
  ·cases hk; exact ⟨rfl,by show (-9223372036854775808:Int)≤0; decide,by show (0:Int)≤9223372036854775807; decide⟩
  ·cases hk
 refine Qm (M':=(b1,.var (.agg #[.int .i64 (p:Int),.slice (some ⟨d.b,d.o+0,none⟩) 1 (d.c - 0)]),130)::([(b8,Blk.arr (List.replicate n (Value.int .i64 0)),TInt)]++M)) ?_ pgj
 generalize List.replicate n (Value.int .i64 0)=us0 at hrow hel0 ⊢
 generalize [(b8,Blk.arr us0,TInt)]=D0 at hrow ⊢
 repeat (first|refine Qb ?_|refine Qa fun _=>?_|refine w_al fun _=>?_)
 try refine Jo (M':=(b1,.var (.agg #[.int .i64 (p:Int),.slice (some ⟨d.b,d.o+0,none⟩) 1 (d.c - 0)]),130)::(D0++M)) (ULe.refl _) sbk ?_
 refine Qx (fun z E U' M'=>∃ (a:Nat) (us:List Value) (D:MH),a≤p∧RowO TInt 1 D (some ⟨b8,0,none⟩) n n us∧El Vz U' us (gs p a)∧U13=U'∧E=[(23,.int .i64 (a:Int)),(22,.int .i64 (p:Int)),(7,.slice (some ⟨b8,0,none⟩) n n),(5,.int .i64 (n:Int)),(1,.pointer (some ⟨b1,0,none⟩))]∧ULe U13 U'∧M'=(b1,.var (.agg #[.int .i64 (p:Int),.slice (some ⟨d.b,d.o+0,none⟩) 1 (d.c - 0)]),130)::(D++M)∧z=p - a) (n0:=p - 0) (E0:=[(23,.int .i64 ((0:Nat):Int)),(22,.int .i64 (p:Int)),(7,.slice (some ⟨b8,0,none⟩) n n),(5,.int .i64 (n:Int)),(1,.pointer (some ⟨b1,0,none⟩))]) ⟨rfl,rfl,rfl,rfl,rfl,trivial⟩ ⟨0,us0,D0,by omega,hrow,hel0,rfl,rfl,uc,rfl,rfl⟩ ?_
 clear hrow hel0
 rintro z E U1 M' ⟨a,us,D,ha,hrow,hel,rfl,rfl,hU1,rfl,rfl⟩
 try refine Qc ?_
 refine Ql rfl (fun h=>?_) (fun h=>?_)
 ·have hap:a < p:=by omega
  obtain ⟨z,k,m,hv,hz,hkm⟩:=Qhk (a:=a) hp
  repeat (first|refine Qb ?_|refine Qa fun _=>?_|refine w_al fun _=>?_)
  refine Qd rfl rfl rfl rfl rfl rfl (fun _=>Qdy (TabOK.more hQ uc) hp hap hd (hM.trans sb)) ?_
  rintro v29 U29 D29 hU29 ⟨rfl,rfl⟩
  refine YZ (List.sublist_append_right D29 _) ?_
  rw [hv]
  repeat (first|refine Qb ?_|refine Qa fun _=>?_|refine w_al fun _=>?_)
  rename_i b9
  cases z
  ·have ha0:a≠0:=fun e=>by have:=hz.2 e; cases this
   obtain ⟨hm,hk,hkt⟩:=hkm ha0
   have ht:twi p a≤13:=by unfold twi; split<;>omega
   rw [← hn] at hkt
   repeat (first|refine Qb ?_|refine Qa fun _=>?_|refine w_al fun _=>?_)
   refine Yf [11] [0,1,2,4,5,6,7,8,9,3,10,11] sym (by kernel_rfl) ?_
   repeat (first|refine Qb ?_|refine Qa fun _=>?_|refine w_al fun _=>?_)
   refine sl_y (qR (m:=n) (n:=p) (q:=2) rfl rfl rfl rfl rfl (by simp only [kmax]; omega) (by omega) (by rw [hn,Nat.mul_div_cancel _ (show 0 < p by omega)])) rfl rfl rfl rfl ?_
   repeat (first|refine Qb ?_|refine Qa fun _=>?_|refine w_al fun _=>?_)
   refine Qd rfl rfl rfl rfl rfl rfl (fun _=>QdZ (n:=n) rfl rfl hm hk (by omega)) ?_
   rintro v38 U38 D38 hU38 ⟨rfl,rfl,rfl⟩
   rw [List.nil_append,hkt]
   have hidx:((twi p a:Nat):Int)+(a:Int)*((2:Nat):Int)=((twi p a+a*2:Nat):Int):=rfl
   have hgb:∀ k,0≤gs p a k∧gs p a k≤1000:=fun k=>by have:=Qdh (p:=p) a k; omega
   repeat (first|refine Qb ?_|refine Qa fun _=>?_|refine w_al fun _=>?_)
   rw [hidx]
   refine Qbu rfl rfl rfl rfl rfl rfl ((QhJ (t:=twi p a+a*2) (X:=(b9,.var (.agg #[.bool false,.int .i64 (k:Int),.int .i64 (m:Int)]),191)::(b1,.var (.agg #[.int .i64 (p:Int),.slice (some ⟨d.b,d.o+0,none⟩) 1 (d.c - 0)]),130)::M) hrow hel (by omega) (by omega) hgb).perm pgj) ?_
   rintro v46 U46 M46 hU46 ⟨rfl,rfl,us',D',rfl,hr',hel'⟩
   refine Qm (M':=(b9,.var (.agg #[.bool false,.int .i64 (k:Int),.int .i64 (m:Int)]),191)::(b1,.var (.agg #[.int .i64 (p:Int),.slice (some ⟨d.b,d.o+0,none⟩) 1 (d.c - 0)]),130)::(D'++M)) ?_ pgj
   repeat (first|refine Qb ?_|refine Qa fun _=>?_|refine w_al fun _=>?_)
   refine JG (M':=(b1,.var (.agg #[.int .i64 (p:Int),.slice (some ⟨d.b,d.o+0,none⟩) 1 (d.c - 0)]),130)::(D'++M)) (ULe.refl _) sbk ?_
   exact Qo (E':=[(23,.int .i64 ((a:Int)+1)),(22,.int .i64 (p:Int)),(7,.slice (some ⟨b8,0,none⟩) n n),(5,.int .i64 (n:Int)),(1,.pointer (some ⟨b1,0,none⟩))]) (m:=p - (a+1)) ⟨rfl,rfl,rfl,rfl,rfl,trivial⟩ (by omega) ⟨a+1,us',D',by omega,hr',(fun k x hk=>by
    have:Vz _ x (if k=(twi p a+a*2) % n then gs p a k+1 else gs p a k):=hel' k x hk
    rwa [show (if k=(twi p a+a*2) % n then gs p a k+1 else gs p a k)=gs p (a+1) k by
     show _=gs p a k+(if a≠0∧k=(twi p a+a*2) % (2*p) then 1 else 0)
     rw [← hn]
     by_cases e:k=(twi p a+a*2) % n
     ·rw [if_pos e,if_pos ⟨ha0,e⟩]
     ·rw [if_neg e,if_neg (fun h=>e h.2)]; omega] at this),rfl,rfl,uc,rfl,rfl⟩
  ·have ha0:a=0:=hz.1 rfl
   repeat (first|refine Qb ?_|refine Qa fun _=>?_|refine w_al fun _=>?_)
   refine JG (M':=(b1,.var (.agg #[.int .i64 (p:Int),.slice (some ⟨d.b,d.o+0,none⟩) 1 (d.c - 0)]),130)::(D++M)) (ULe.refl _) sbk ?_
   exact Qo (E':=[(23,.int .i64 ((a:Int)+1)),(22,.int .i64 (p:Int)),(7,.slice (some ⟨b8,0,none⟩) n n),(5,.int .i64 (n:Int)),(1,.pointer (some ⟨b1,0,none⟩))]) (m:=p - (a+1)) ⟨rfl,rfl,rfl,rfl,rfl,trivial⟩ (by omega) ⟨a+1,us,D,by omega,hrow,(fun k x hk=>by
    have:=hel k x hk
    rwa [show gs p a k=gs p (a+1) k by
     show _=gs p a k+(if a≠0∧k=(twi p a+a*2) % (2*p) then 1 else 0)
     rw [if_neg (fun h=>h.1 ha0)]; omega] at this),rfl,rfl,uc,rfl,rfl⟩
 obtain rfl:p=a:=by omega
 rw [hn] at hrow ⊢
 repeat (first|refine Qb ?_|refine Qa fun _=>?_|refine w_al fun _=>?_)
 refine Qd rfl rfl rfl rfl rfl rfl (fun _=>QfT (TabOK.more hQ uc) hp (hrow.at sb) hel) ?_
 rintro v49 U49 D49 hU49 ⟨h49,rfl⟩
 rw [List.nil_append]
 obtain ⟨p4,c4,vs4,rfl,-⟩:=id h49
 repeat (first|refine Qb ?_|refine Qa fun _=>?_|refine w_al fun _=>?_)
 exact Qg [] sym rfl (.cons (.tmp rfl) (.cons (.tmp rfl) (.cons (.tmp rfl) .nil))) uc sb (.inl rfl) ⟨_,rfl,h49,rfl⟩
set_option maxHeartbeats 4000000 in
theorem Qbn (hQ:TabOK Tryz.prog tys tb U) {p:Nat} (hp:P13 p) :
  Ct Tryz.prog 30 [.int .i64 (dsc p)] G U M fun v U' D=>∃ k r,v = .tuple #[k,r,.bool true]∧Vfld U' k (phiL p)∧Pz U' [] r (gauL p)∧D=[]:=by
 refine Qi Tryz.func30 rfl rfl rfl rfl ?_
 repeat (first|refine Qb ?_|refine Qa fun _=>?_|refine w_al fun _=>?_)
 rename_i b2
 refine Qd rfl rfl rfl rfl rfl rfl (fun _=>QhM (TabOK.more hQ uc) hp) ?_
 rintro v14 U14 D14 hU14 ⟨rfl,d,J,hd,rfl,rfl⟩
 refine YZ (show (chE d p::(b2,.var (.agg #[.slice none 0 0]),75)::M).Sublist _ from List.Sublist.cons_cons _ (List.sublist_append_right J _)) ?_
 unfold chv
 repeat (first|refine Qb ?_|refine Qa fun _=>?_|refine w_al fun _=>?_)
 rename_i b5
 refine Ql rfl (fun h=>absurd rfl h) (fun _=>?_)
 repeat (first|refine Qb ?_|refine Qa fun _=>?_|refine w_al fun _=>?_)
 refine Qd rfl rfl rfl rfl rfl rfl (fun _=>QdP (TabOK.more hQ uc) hp hd (show [chE d p].Sublist _ from sb)) ?_
 rintro v22 U22 D22 hU22 ⟨r,rfl,hr,rfl⟩
 rw [List.nil_append]
 obtain ⟨p4,c4,vs4,rfl,-⟩:=id hr
 repeat (first|refine Qb ?_|refine Qa fun _=>?_|refine w_al fun _=>?_)
 refine Ql rfl (fun h=>absurd rfl h) (fun _=>?_)
 repeat (first|refine Qb ?_|refine Qa fun _=>?_|refine w_al fun _=>?_)
 refine Qd rfl rfl rfl rfl rfl rfl (fun _=>Qbw (TabOK.more hQ uc) hp rfl) ?_
 rintro v31 U31 D31 hU31 ⟨qf,cF,rfl,hfz,rfl⟩
 rw [List.nil_append]
 repeat (first|refine Qb ?_|refine Qa fun _=>?_|refine w_al fun _=>?_)
 rw [QaK (show (0:Int)=0 from rfl)]
 exact Qg [] sym rfl (.cons (.cell 3 rfl rfl rfl) (.cons (.tmp rfl) (.cons (.tmp rfl) .nil))) uc sb (.inl rfl) ⟨_,_,rfl,⟨qf,cF,by rw [Jy],by rw [Jy]; exact hfz.up KeptC.out uc (List.Sublist.refl _)⟩,hr.up uc (List.Sublist.refl _),rfl⟩
end Go.Proofs.YtnjpkncacddplaaGreatDoor

/- Runs for the law TopReciprocity. -/
namespace Go.Proofs.YtnjpkncacddplaaGreatDoor
open Go.Hp Go.Pl Go.Gx
variable {G:World} {U U':UH} {M:MH}
set_option maxRecDepth 100000 in
theorem Qca:isTrue (runK fnT noCall tb 10000 100 28 [])=true:=by kernel_rfl
theorem QdN (hQ:TabOK Tryz.prog tys tb U):Ct Tryz.prog 28 [] G U M fun v U' _=>U'=U∧v = .bool true:=QdV hQ fnOK QK Qca rfl
noncomputable def kronB:Bool:=[3,5,7,11,13].all fun p=>qs.all fun q=>Nat.beq p q || (isI (leg p q) (runK fnT noCall tb 10000 100 19 [.one (.it .i64 (q:Int)),.one (.it .i64 (p:Int))]) && isI (leg p q) (runK fnT noCall tb 10000 100 19 [.one (.it .i64 (dsc p)),.one (.it .i64 (q:Int))]))
set_option maxRecDepth 100000 in
theorem Qgo:kronB=true:=by kernel_rfl
theorem Qdm {p q:Nat} (hp:P13 p) (hq:q ∈ qs) (h:p≠q):(isI (leg p q) (runK fnT noCall tb 10000 100 19 [.one (.it .i64 (q:Int)),.one (.it .i64 (p:Int))]) && isI (leg p q) (runK fnT noCall tb 10000 100 19 [.one (.it .i64 (dsc p)),.one (.it .i64 (q:Int))]))=true:=by
 have h1:=List.all_eq_true.1 Qgo p (by rcases hp with rfl | rfl | rfl | rfl | rfl<;>simp)
 have h2:=List.all_eq_true.1 h1 q hq
 rw [Bool.or_eq_true] at h2
 rcases h2 with h4 | h4
 ·exact absurd (Nat.eq_of_beq_eq_true h4) h
 ·exact h4
theorem Qew (hQ:TabOK Tryz.prog tys tb U) {p q:Nat} (hp:P13 p) (hq:q ∈ qs) (h:p≠q):Ct Tryz.prog 19 [.int .i64 (q:Int),.int .i64 (p:Int)] G U M fun v U' _=>U'=U∧v = .int .i64 (leg p q):=by
 have h2:=Qdm hp hq h
 rw [Bool.and_eq_true] at h2
 exact yd hQ fnOK QK h2.1 rfl
theorem QfX (hQ:TabOK Tryz.prog tys tb U) {p q:Nat} (hp:P13 p) (hq:q ∈ qs) (h:p≠q):Ct Tryz.prog 19 [.int .i64 (dsc p),.int .i64 (q:Int)] G U M fun v U' _=>U'=U∧v = .int .i64 (leg p q):=by
 have h2:=Qdm hp hq h
 rw [Bool.and_eq_true] at h2
 exact yd hQ fnOK QK h2.2 rfl
theorem jz {p:Nat} (h3:3≤p) (h60:p≤60) :
  Ct Tryz.prog 29 [.int .i64 (p:Int)] G U M fun v U' D=>∃ t:Bool,v = .bool t∧(t=true→∀ d,d < p→2≤d→p % d≠0)∧U=U'∧D=[]:=by
 refine Qi Tryz.func29 rfl rfl rfl rfl ?_
 repeat (first|refine Qb ?_|refine Qa fun _=>?_|refine w_al fun _=>?_)
 try refine Jo (M':=M) (ULe.refl _) sbk ?_
 refine Qx (fun z E U' M'=>∃ (i:Nat),2≤i∧i≤p∧(∀ d,d < i→2≤d→p % d≠0)∧U=U'∧E=[(3,.int .i64 (i:Int)),(0,.int .i64 (p:Int))]∧ULe U U'∧M'=M∧z=p - i) (n0:=p - 2) (E0:=[(3,.int .i64 ((2:Nat):Int)),(0,.int .i64 (p:Int))]) ⟨rfl,rfl,trivial⟩ ⟨2,(by omega),(by omega),(fun d h1 h2=>absurd h1 (by omega)),rfl,rfl,uc,rfl,rfl⟩ ?_
 rintro z E U1 M' ⟨i,hi2,hi,hall,rfl,rfl,hU1,hMM,rfl⟩
 obtain rfl:M=M':=hMM.symm
 try refine Qc ?_
 refine Ql rfl (fun h=>?_) (fun h=>?_)
 ·have hin:i < p:=by omega
  repeat (first|refine Qb ?_|refine Qa fun _=>?_|refine w_al fun _=>?_)
  refine sl_y (qe (m:=p) (n:=i) (q:=Nat.mod p i) rfl rfl rfl rfl rfl (by simp only [kmax]; omega) (by omega) rfl) rfl rfl rfl rfl ?_
  repeat (first|refine Qb ?_|refine Qa fun _=>?_|refine w_al fun _=>?_)
  refine Ql rfl (fun h1=>?_) (fun h1=>?_)
  ·repeat (first|refine Qb ?_|refine Qa fun _=>?_|refine w_al fun _=>?_)
   exact Qg [] sym rfl (.cons (.tmp rfl) .nil) uc sb (.inl rfl) ⟨false,rfl,(fun h=>by cases h),rfl,rfl⟩
  ·have hne:p % i≠0:=fun e=>h1 (by show ((p % i:Nat):Int)=0; rw [e]; rfl)
   repeat (first|refine Qb ?_|refine Qa fun _=>?_|refine w_al fun _=>?_)
   exact Qo (E':=[(3,.int .i64 ((i:Int)+1)),(0,.int .i64 (p:Int))]) (m:=p - (i+1)) ⟨rfl,rfl,trivial⟩ (by omega) ⟨i+1,by omega,by omega,(fun d h1 h2=>by
    rcases Nat.lt_or_eq_of_le (Nat.le_of_lt_succ h1) with h5 | h5
    ·exact hall d h5 h2
    ·rw [h5]; exact hne),rfl,rfl,uc,rfl,rfl⟩
 ·obtain rfl:p=i:=by omega
  repeat (first|refine Qb ?_|refine Qa fun _=>?_|refine w_al fun _=>?_)
  exact Qg [] sym rfl (.cons (.tmp rfl) .nil) uc sb (.inl rfl) ⟨true,by rw [QaK (show (p:Int) > 1 by omega)]; rfl,fun _=>hall,rfl,rfl⟩
end Go.Proofs.YtnjpkncacddplaaGreatDoor

/- The law TopReciprocity: the walk. -/
namespace Go.Proofs.YtnjpkncacddplaaGreatDoor
open Go.Hp Go.Pl Go.Gx
variable {G:World} {U U':UH} {M:MH}
theorem Vfld.up {v:Value} {F:List Int} (h:Vfld U v F) (hU:ULe U U'):Vfld U' v F:=by
 obtain ⟨p,c,h1,h2⟩:=h
 exact ⟨p,c,h1,h2.up KeptC.out hU (List.Sublist.refl _)⟩
set_option maxHeartbeats 8000000 in
theorem qD (hQ:TabOK Tryz.prog tys tb U) {p q:Int} (ip : -9223372036854775808≤p∧p≤9223372036854775807) (iq : -9223372036854775808≤q∧q≤9223372036854775807) :
  Ct Tryz.prog 6 [.int .i64 p,.int .i64 q] G U M fun v _ _=>v = .bool true:=by
 refine Qi Tryz.func6 rfl rfl rfl rfl ?_
 repeat (first|refine Qb ?_|refine Qa fun _=>?_|refine w_al fun _=>?_)
 refine Qd rfl rfl rfl rfl rfl rfl (fun _=>QdN (TabOK.more hQ uc)) ?_
 rintro v21 U21 D21 hU21 ⟨rfl,rfl⟩
 refine YZ (List.sublist_append_right D21 _) ?_
 repeat (first|refine Qb ?_|refine Qa fun _=>?_|refine w_al fun _=>?_)
 refine QL rfl rfl (fun h1=>?_) (fun h1=>?_)
 ·repeat (first|refine Qb ?_|refine Qa fun _=>?_|refine w_al fun _=>?_)
  exact Qg [] sym rfl (.cons (.tmp rfl) .nil) uc sb (.inl rfl) rfl
 repeat (first|refine Qb ?_|refine Qa fun _=>?_|refine w_al fun _=>?_)
 refine QL rfl rfl (fun h2=>?_) (fun h2=>?_)
 ·repeat (first|refine Qb ?_|refine Qa fun _=>?_|refine w_al fun _=>?_)
  exact Qg [] sym rfl (.cons (.tmp rfl) .nil) uc sb (.inl rfl) rfl
 repeat (first|refine Qb ?_|refine Qa fun _=>?_|refine w_al fun _=>?_)
 refine QL rfl rfl (fun h3=>?_) (fun h3=>?_)
 ·repeat (first|refine Qb ?_|refine Qa fun _=>?_|refine w_al fun _=>?_)
  exact Qg [] sym rfl (.cons (.tmp rfl) .nil) uc sb (.inl rfl) rfl
 repeat (first|refine Qb ?_|refine Qa fun _=>?_|refine w_al fun _=>?_)
 refine QL rfl rfl (fun h4=>?_) (fun h4=>?_)
 ·repeat (first|refine Qb ?_|refine Qa fun _=>?_|refine w_al fun _=>?_)
  exact Qg [] sym rfl (.cons (.tmp rfl) .nil) uc sb (.inl rfl) rfl
 repeat (first|refine Qb ?_|refine Qa fun _=>?_|refine w_al fun _=>?_)
 refine QL rfl rfl (fun h5=>?_) (fun h5=>?_)
 ·repeat (first|refine Qb ?_|refine Qa fun _=>?_|refine w_al fun _=>?_)
  exact Qg [] sym rfl (.cons (.tmp rfl) .nil) uc sb (.inl rfl) rfl
 obtain ⟨P,rfl⟩:∃ n:Nat,p=(n:Int):=⟨p.toNat,by omega⟩
 obtain ⟨Q,rfl⟩:∃ n:Nat,q=(n:Int):=⟨q.toNat,by omega⟩
 repeat (first|refine Qb ?_|refine Qa fun _=>?_|refine w_al fun _=>?_)
 refine Qd rfl rfl rfl rfl rfl rfl (fun _=>jz (p:=P) (by omega) (by omega)) ?_
 rintro v44 U44 D44 hU44 ⟨t44,rfl,h44,rfl,rfl⟩
 rw [List.nil_append]
 cases t44
 ·repeat (first|refine Qb ?_|refine Qa fun _=>?_|refine w_al fun _=>?_)
  exact Qg [] sym rfl (.cons (.tmp rfl) .nil) uc sb (.inl rfl) rfl
 have hP:P13 P:=QiH (qr P (by omega) (by omega) (h44 rfl)) (by omega)
 repeat (first|refine Qb ?_|refine Qa fun _=>?_|refine w_al fun _=>?_)
 refine Qd rfl rfl rfl rfl rfl rfl (fun _=>jz (p:=Q) (by omega) (by omega)) ?_
 rintro v49 U49 D49 hU49 ⟨t49,rfl,h49,rfl,rfl⟩
 rw [List.nil_append]
 cases t49
 ·repeat (first|refine Qb ?_|refine Qa fun _=>?_|refine w_al fun _=>?_)
  exact Qg [] sym rfl (.cons (.tmp rfl) .nil) uc sb (.inl rfl) rfl
 have hQq:Q ∈ qs:=qr Q (by omega) (by omega) (h49 rfl)
 have hne:P≠Q:=fun e=>h5 (by rw [e])
 have hP13:3≤P∧P≤13:=by rcases hP with rfl | rfl | rfl | rfl | rfl<;>decide
 have hsym:leg P Q=1∨leg P Q = -1:=by unfold leg; split<;>simp
 repeat (first|refine Vw ?_|refine Qa fun _=>?_|refine w_al fun _=>?_)
 refine Jd ?_
 repeat (first|refine Vw ?_|refine Qa fun _=>?_|refine w_al fun _=>?_)
 refine Qt (fun E U' M'=>∃ (d:Int),d=dsc P∧E=[(5,.int .i64 d),(0,.int .i64 (P:Int)),(1,.int .i64 (Q:Int))]∧ULe U21 U'∧M'=M) ?_ ?_
 ·repeat (first|refine Qb ?_|refine Qa fun _=>?_|refine w_al fun _=>?_)
  refine Ql rfl (fun h=>?_) (fun h=>?_)
  ·have hm:P % 4=3:=by rw [Int.tmod_eq_emod_of_nonneg (by omega)] at h; omega
   have nx:IntKind.i64.wrap (0 - (P:Int)) = -(P:Int):=by rw [IntWalk.i64_in _ (by omega)]; omega
   repeat (first|refine Vw ?_|refine Qa fun _=>?_|refine w_al fun _=>?_)
   rw [nx]
   repeat (first|refine Qb ?_|refine Qa fun _=>?_|refine w_al fun _=>?_)
   exact Qy (E':=[(5,.int .i64 (-(P:Int))),(0,.int .i64 (P:Int)),(1,.int .i64 (Q:Int))]) ⟨rfl,rfl,rfl,trivial⟩ ⟨-(P:Int),by unfold dsc; rw [if_pos hm],rfl,uc,rfl⟩
  ·have hm:¬ P % 4=3:=fun e=>h (by rw [Int.tmod_eq_emod_of_nonneg (by omega)]; omega)
   repeat (first|refine Qb ?_|refine Qa fun _=>?_|refine w_al fun _=>?_)
   exact Qy (E':=[(5,.int .i64 ((P:Int))),(0,.int .i64 (P:Int)),(1,.int .i64 (Q:Int))]) ⟨rfl,rfl,rfl,trivial⟩ ⟨(P:Int),by unfold dsc; rw [if_neg hm],rfl,uc,rfl⟩
 rintro E U1 M' ⟨d,hd,rfl,hU1,hMM⟩
 obtain rfl:M=M':=hMM.symm
 subst hd
 repeat (first|refine Qb ?_|refine Qa fun _=>?_|refine w_al fun _=>?_)
 refine Qd rfl rfl rfl rfl rfl rfl (fun _=>Qbn (TabOK.more hQ uc) hP) ?_
 rintro v60 U60 D60 hU60 ⟨k,g,rfl,hk,hg,rfl⟩
 rw [List.nil_append]
 obtain ⟨pg,cg,vg,rfl,-⟩:=id hg
 obtain ⟨qf,cF,rfl,hfz⟩:=id hk
 repeat (first|refine Qb ?_|refine Qa fun _=>?_|refine w_al fun _=>?_)
 rename_i b6
 have hmon:=QcB hP
 have hgl:(gauL P).length≤12:=by
  have:=Vo (F:=phiL P) (f:=gaL P) (by have:=hmon.l1; omega) hmon.lead
  rw [Jy] at this
  show (remL (phiL P) (gaL P)).length≤12
  omega
 refine Qd rfl rfl rfl rfl rfl rfl (fun _=>QfI (TabOK.more hQ uc) (hk.up uc) hmon (hg.up uc (List.nil_sublist _)) (Qci hP) hgl (show 3≤Q by omega) (by omega)) ?_
 rintro v68 U68 D68 hU68 ⟨r1,rfl,h68,bl68,ln68,rfl⟩
 rw [List.nil_append]
 obtain ⟨p1,c1,vs1,rfl,-⟩:=id h68
 repeat (first|refine Qb ?_|refine Qa fun _=>?_|refine w_al fun _=>?_)
 refine Qd rfl rfl rfl rfl rfl rfl (fun _=>Qew (TabOK.more hQ uc) hP hQq hne) ?_
 rintro v73 U73 D73 hU73 ⟨rfl,rfl⟩
 refine YZ (List.sublist_append_right D73 _) ?_
 repeat (first|refine Qb ?_|refine Qa fun _=>?_|refine w_al fun _=>?_)
 refine Yf [5,9,10] [0,1,2,3,4,5,6,7,8,9,10] sym (by kernel_rfl) ?_
 repeat (first|refine Qb ?_|refine Qa fun _=>?_|refine w_al fun _=>?_)
 refine Qd rfl rfl rfl rfl rfl rfl (fun _=>(QhX (z:=leg P Q) (by omega) (by omega)).settle) ?_
 rintro v Uh78 D hU ⟨rfl,_,_,⟨xh78,rfl,h78,-⟩,-,-,hs⟩
 replace h78:=h78.sett hs
 clear hs
 repeat (first|refine Qb ?_|refine Qa fun _=>?_|refine w_al fun _=>?_)
 refine JO (vs:=[xh78.v]) sym rfl rfl rfl rfl rfl rfl (yu rfl) rfl rfl rfl rfl rfl rfl (fun b79=>?_)
 have h79:=QeC (D:=[(b79,.arr [xh78.v],TR)]) (b:=b79) h78 (List.Sublist.refl _)
 have bl79:BL 1 [leg P Q]:=fun k=>by
  cases k with
  | zero=>show (leg P Q).natAbs < 4294967296 ^ 1; rcases hsym with e | e<;>rw [e]<;>decide
  | succ k=>rw [Ym (by simp)]; decide
 have hl1:=hmon.l1
 rw [Jy] at hl1
 have lm := @qw (gauL P) [leg P Q]
 have lm1:(mulL (gauL P) [leg P Q]).length≤13:=by simpa using Nat.le_trans lm (by simp; omega)
 have blm:=jG (Qci hP) bl79 (by omega)
 have blo:BL 512 (ownR P Q):=(jE hmon.small blm (by rw [QS]; have:=JK (co (mulL (gauL P) [leg P Q])) (mulL (gauL P) [leg P Q]).length; omega)).mono (by decide)
 have lno:(ownR P Q).length≤12:=by
  have:=Vo (F:=phiL P) (f:=mulL (gauL P) [leg P Q]) (by rw [Jy]; omega) hmon.lead
  rw [Jy] at this
  show (remL _ _).length≤12
  omega
 refine Qd rfl rfl rfl rfl rfl rfl (fun _=>Qgs (hk.up uc) hmon (hg.up uc (List.nil_sublist _)) (h79.up uc sb) (Qci hP) bl79 (by decide) (by decide) (by decide) (by rw [Jy]; simp; omega)) ?_
 rintro v80 U80 D80 hU80 ⟨r2,rfl,h80,rfl⟩
 rw [List.nil_append]
 obtain ⟨p2,c2,vs2,rfl,-⟩:=id h80
 repeat (first|refine Qb ?_|refine Qa fun _=>?_|refine w_al fun _=>?_)
 refine Qd rfl rfl rfl rfl rfl rfl (fun _=>QeR (hk.up uc) hmon (h68.up uc (List.nil_sublist _)) (h80.up uc (List.nil_sublist _)) bl68 blo (by decide) (by decide) ln68 lno) ?_
 rintro v87 U87 D87 hU87 ⟨r3,rfl,h87,rfl⟩
 rw [List.nil_append]
 have h87:Pz U87 [] r3 (rest P Q):=h87
 have lsub := @Qbg (pwr P Q) (ownR P Q)
 have lsub2:(subL (pwr P Q) (ownR P Q)).length≤12:=Nat.le_trans lsub (Nat.max_le.2 ⟨ln68,lno⟩)
 have blr:BL 514 (rest P Q):=jE hmon.small (Qdi bl68 blo) (by rw [QS]; have:=JK (co (subL (pwr P Q) (ownR P Q))) (subL (pwr P Q) (ownR P Q)).length; omega)
 have hdiv:=QiZ hP hQq hne
 obtain ⟨p3,c3,vs3,rfl,hc3,rw3,el3⟩:=id h87
 repeat (first|refine Qb ?_|refine Qa fun _=>?_|refine w_al fun _=>?_)
 refine QL rfl rfl (fun h=>absurd rfl h) (fun _=>?_)
 repeat (first|refine Qb ?_|refine Qa fun _=>?_|refine w_al fun _=>?_)
 refine QL rfl rfl (fun h=>absurd rfl h) (fun _=>?_)
 repeat (first|refine Qb ?_|refine Qa fun _=>?_|refine w_al fun _=>?_)
 refine QL rfl rfl (fun h=>absurd rfl h) (fun _=>?_)
 repeat (first|refine Qb ?_|refine Qa fun _=>?_|refine w_al fun _=>?_)
 refine Qd rfl rfl rfl rfl rfl rfl (fun _=>QfX (TabOK.more hQ uc) hP hQq hne) ?_
 rintro v107 U107 D107 hU107 ⟨rfl,rfl⟩
 refine YZ (List.sublist_append_right D107 _) ?_
 repeat (first|refine Qb ?_|refine Qa fun _=>?_|refine w_al fun _=>?_)
 refine Ql rfl (fun h=>absurd rfl h) (fun _=>?_)
 repeat (first|refine Qb ?_|refine Qa fun _=>?_|refine w_al fun _=>?_)
 obtain ⟨n,hn⟩:∃ n,n=(rest P Q).length:=⟨_,rfl⟩
 have hn9:n≤1000:=by
  have h1:(rest P Q).length≤max (phiL P).length (subL (pwr P Q) (ownR P Q)).length:=QeQ (by rw [Jy]; omega)
  rw [Jy] at h1
  omega
 rw [← hn] at rw3 hc3 ⊢
 have hQ0:((Q:Int):Rat)≠0:=fun e=>by
  have:=Rat.intCast_inj.1 (e.trans (show (0:Rat)=((0:Int):Rat) from rfl))
  omega
 refine Jo (M':=M) (ULe.refl _) sb ?_
 try refine Jo (M':=M) (ULe.refl _) sbk ?_
 refine Qx (fun z E U' M'=>∃ (i:Nat),i≤n∧E=[(16,.int .i64 (i:Int)),(14,.slice p3 n c3),(1,.int .i64 (Q:Int))]∧ULe U107 U'∧M'=M∧z=n - i) (n0:=n - 0) (E0:=[(16,.int .i64 ((0:Nat):Int)),(14,.slice p3 n c3),(1,.int .i64 (Q:Int))]) ⟨rfl,rfl,rfl,trivial⟩ ⟨0,Nat.zero_le n,rfl,uc,rfl,rfl⟩ ?_
 rintro z E U2 M' ⟨i,hi,rfl,hU2,hMM,rfl⟩
 obtain rfl:M=M':=hMM.symm
 try refine Qc ?_
 refine Ql rfl (fun h=>?_) (fun h=>?_)
 ·have hin:i < n:=by omega
  obtain ⟨v4,hv4⟩:=rw3.at hin
  obtain ⟨x4,rfl,hx4,sx4⟩:=vp_w (el3 _ _ hv4) (blr i) (by decide)
  obtain ⟨z4,hz4⟩:=hdiv i
  repeat (first|refine Qb ?_|refine Qa fun _=>?_|refine w_al fun _=>?_)
  refine Yf [11,12] [0,1,2,3,4,5,6,7,8,9,10,11,12] sym (by kernel_rfl) ?_
  repeat (first|refine Qb ?_|refine Qa fun _=>?_|refine w_al fun _=>?_)
  refine sl_y (QC sym rfl rfl rfl rfl rfl rfl ((rw3.up uc sb).lt hv4) ((rw3.up uc sb).get _ _ hv4).1) rfl rfl rfl rfl ?_; refine sl_y (QQ sym rfl rfl rfl rfl rfl (rw3.up uc sb) hv4) rfl rfl rfl rfl ?_
  repeat (first|refine Qb ?_|refine Qa fun _=>?_|refine w_al fun _=>?_)
  refine Qd rfl rfl rfl rfl rfl rfl (fun _=>(QhX (z:=(Q:Int)) (by omega) (by omega)).settle) ?_
  rintro v Uh123 D hU ⟨rfl,_,_,⟨xh123,rfl,h123,-⟩,-,-,hs⟩
  replace h123:=h123.sett hs
  clear hs
  repeat (first|refine Qb ?_|refine Qa fun _=>?_|refine w_al fun _=>?_)
  refine Qd rfl rfl rfl rfl rfl rfl (fun _=>Qcz (hx4.rep.up uc (List.nil_sublist _)) (hx4.le sx4 (by decide)) (h123.rep.up uc (List.nil_sublist _)) (h123.le (Ve (z:=(Q:Int)) (k:=1) (by unfold Sz; omega) (by decide)) (by decide)) hQ0) ?_
  rintro v124 U124 D124 hU124 ⟨xq,rfl,h124,rfl⟩
  try rw [List.nil_append]
  repeat (first|refine Qb ?_|refine Qa fun _=>?_|refine w_al fun _=>?_)
  have hval:((co (rest P Q) i:Int):Rat) / ((Q:Int):Rat)=((z4:Int):Rat):=by
   rw [hz4,Rat.intCast_mul,Rat.div_def,Rat.mul_assoc,Rat.mul_inv_cancel _ hQ0,Rat.mul_one]
  rw [hval] at h124
  have hzb:z4.natAbs < 4294967296 ^ 514:=by
   have h1:=blr i
   rw [hz4,Int.natAbs_mul] at h1
   have h2:z4.natAbs*1≤z4.natAbs*(Q:Int).natAbs:=Nat.mul_le_mul_left _ (by omega)
   omega
  rename_i b17
  refine Qd rfl rfl rfl rfl rfl rfl (fun _=>QbB (h124.rep.up uc (List.nil_sublist _)) (h124.le (Ve hzb (by decide)) (by decide))) ?_
  rintro v129 U129 D129 hU129 ⟨r129,b129,rfl,hy129,-,rfl⟩
  rw [List.nil_append]
  obtain ⟨rfl,-⟩:=hy129 rfl
  repeat (first|refine Qb ?_|refine Qa fun _=>?_|refine w_al fun _=>?_)
  refine QL rfl rfl (fun h=>absurd rfl h) (fun _=>?_)
  repeat (first|refine Qb ?_|refine Qa fun _=>?_|refine w_al fun _=>?_)
  refine JG (M':=M) (ULe.refl _) sbk ?_
  exact Qo (E':=[(16,.int .i64 ((i:Int)+1)),(14,.slice p3 n c3),(1,.int .i64 (Q:Int))]) (m:=n - (i+1)) ⟨rfl,rfl,rfl,trivial⟩ (by omega) ⟨i+1,by omega,rfl,uc,rfl,rfl⟩
 ·repeat (first|refine Qb ?_|refine Qa fun _=>?_|refine w_al fun _=>?_)
  exact Qg [] sym rfl (.cons (.tmp rfl) .nil) uc sb (.inl rfl) rfl
end Go.Proofs.YtnjpkncacddplaaGreatDoor
