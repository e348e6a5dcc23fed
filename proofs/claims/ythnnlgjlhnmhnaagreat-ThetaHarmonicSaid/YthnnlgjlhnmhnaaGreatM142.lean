/- Texts of this seat's own, merged: each begins with its own remark. -/
import Derived.Test.YthnnlgjlhnmhnaaGreatM141
import Derived.Test.YthnnlgjlhnmhnaaGreatM56
import Derived.Test.YthnnlgjlhnmhnaaGreatM140
/- Walks of layer 36: the reference's derived, degree. -/
namespace Go.Proofs.YthnnlgjlhnmhnaaGreat
open Go.Hp
variable {G:World} {U U':UH} {M:MH}
def dwn (e:Nat→Int) (i:Nat):Nat→Int:=fun k=>if k=i then (if e i - 1 > 0 then e i - 1 else 0) else e k
set_option maxHeartbeats 2000000 in
theorem vT {n i b:Nat} {v:Value} {e:Nat→Int} {q:Rat} (hm:Mon b U M v n e q) (he:∀ k,k < n→0≤e k∧e k≤6) (hi:i < n) (hn:n≤8) (hb1:1≤b) (hb:b≤100000) :
  Ct Tryz.prog 28 [v,.int .i64 (i:Int)] G U M fun v U' D=>∃ (p:Addr) (c:Nat) (xs:List Value) (x:QV),v = .agg #[.slice (some p) n c,.bool x.num.neg,.slice x.num.p x.num.n x.num.c,.bool x.den.neg,.slice x.den.p x.den.n x.den.c]∧RowO TInt 1 D (some p) n c xs∧El Vz U' xs (dwn e i)∧x.nrm U' [] (q*((e i:Int):Rat))∧ULe U U':=by
 obtain ⟨pe,ce,xs,x,rfl,hce,rx,ex,hx,hxl⟩:=hm
 refine Qh Tryz.func28 rfl rfl rfl rfl ?_
 repeat (first|refine Qc ?_|refine Qa fun _=>?_|refine w_al fun _=>?_)
 rename_i b2 b4
 refine QJ (vs:=[]) sym rfl rfl rfl rfl rfl rfl (by intro v hv; cases hv) rfl rfl rfl rfl rfl rfl (fun be=>?_)
 repeat (first|refine Qc ?_|refine Qa fun _=>?_|refine w_al fun _=>?_)
 refine yg (us:=xs) sym rfl rfl rfl rfl rfl rfl rfl (rx.up uc sb) (by omega) (by omega) rfl rfl rfl (fun p' cc D' hr=>?_)
 refine Qj (M':=(b4,.var (.agg #[.slice none 0 0,.bool false,.slice none 0 0,.bool false,.slice none 0 0]),50)::(b2,.var (.agg #[.slice pe n ce,.bool x.num.neg,.slice x.num.p x.num.n x.num.c,.bool x.den.neg,.slice x.den.p x.den.n x.den.c]),50)::(D'++((be,.arr [],TInt)::M))) ?_ pgs
 repeat (first|refine Qc ?_|refine Qa fun _=>?_|refine w_al fun _=>?_)
 refine Qx [9] [0,1,2,3,4,5,6,7,8,9] sym (by kernel_rfl) ?_
 try refine Qb ?_
 have hxi:=he i hi
 obtain ⟨w1,hw1⟩:=rx.at hi
 obtain ⟨hv,-⟩:=ex _ _ hw1
 subst hv
 have rX:=hr.at (U:=U) (M:=(b4,.var (.agg #[.slice none 0 0,.bool false,.slice none 0 0,.bool false,.slice none 0 0]),50)::(b2,.var (.agg #[.slice pe n ce,.bool x.num.neg,.slice x.num.p x.num.n x.num.c,.bool x.den.neg,.slice x.den.p x.den.n x.den.c]),50)::(D'++((be,.arr [],TInt)::M))) sb
 refine sl_y (Qf sym rfl rfl rfl rfl rfl rfl (rX.lt hw1) (rX.get _ _ hw1).1) rfl rfl rfl rfl ?_; refine sl_y (Qk sym rfl rfl rfl rfl rX hw1 rfl) rfl rfl rfl rfl ?_
 try refine Qb ?_
 refine Qd rfl rfl rfl rfl rfl rfl (fun _=>(vO (z:=e i) (by omega) (by omega)).settle) ?_
 rintro v Uh17 D hU ⟨rfl,_,_,⟨xh17,rfl,h17,-⟩,-,-,hs⟩
 replace h17:=h17.sett hs
 clear hs
 repeat (first|refine Qc ?_|refine Qa fun _=>?_|refine w_al fun _=>?_)
 refine Qd rfl rfl rfl rfl rfl rfl (fun _=>jD (hx.up uc sb) ⟨by have:=hxl.1; omega,by have:=hxl.2; omega⟩ (h17.rep.up uc (List.nil_sublist _)) (h17.le (k:=1) (Jx (by unfold Sz; omega) (by decide)) (by decide))) ?_
 rintro v Uh18 D hU ⟨xh18,rfl,h18,rfl⟩
 repeat (first|refine Qc ?_|refine Qa fun _=>?_|refine w_al fun _=>?_)
 rename_i b6
 have rX2:=hr.at (U:=Uh18) (M:=(b6,.var xh18.v,TR)::(b4,.var (.agg #[.slice none 0 0,.bool false,.slice none 0 0,.bool false,.slice none 0 0]),50)::(b2,.var (.agg #[.slice pe n ce,.bool x.num.neg,.slice x.num.p x.num.n x.num.c,.bool x.den.neg,.slice x.den.p x.den.n x.den.c]),50)::(D'++((be,.arr [],TInt)::M))) sb
 refine sl_y (Qf sym rfl rfl rfl rfl rfl rfl (rX2.lt hw1) (rX2.get _ _ hw1).1) rfl rfl rfl rfl ?_; refine sl_y (Qk sym rfl rfl rfl rfl rX2 hw1 rfl) rfl rfl rfl rfl ?_
 try refine Qb ?_
 refine QB (j:=i) hi rfl ?_
 refine QG (v := .int .i64 (if e i - 1 > 0 then e i - 1 else 0)) (X:=(b6,.var xh18.v,TR)::(b4,.var (.agg #[.slice none 0 0,.bool false,.slice none 0 0,.bool false,.slice none 0 0]),50)::(b2,.var (.agg #[.slice pe n ce,.bool x.num.neg,.slice x.num.p x.num.n x.num.c,.bool x.den.neg,.slice x.den.p x.den.n x.den.c]),50)::(be,.arr [],TInt)::M) hr pgs hi (fun D3 hr3=>?_)
 refine Qj (M':=(b4,.var (.agg #[.slice none 0 0,.bool false,.slice none 0 0,.bool false,.slice none 0 0]),50)::(b6,.var xh18.v,TR)::(b2,.var (.agg #[.slice pe n ce,.bool x.num.neg,.slice x.num.p x.num.n x.num.c,.bool x.den.neg,.slice x.den.p x.den.n x.den.c]),50)::(D3++((be,.arr [],TInt)::M))) ?_ pgs
 have hel:El Vz Uh18 (xs.set i (.int .i64 (if e i - 1 > 0 then e i - 1 else 0))) (dwn e i):=YH (fun a y hy hne=>by
   have h5:Vz Uh18 y _:=QgY _ _ _ _ uc (ex a y hy)
   have h6:dwn e i a=e a:=if_neg hne
   rw [h6]; exact h5) (by
   have h6:dwn e i i=(if e i - 1 > 0 then e i - 1 else 0):=if_pos rfl
   rw [h6]
   exact ⟨rfl,by split<;>omega,by split<;>omega⟩)
 repeat (first|refine Qc ?_|refine Qa fun _=>?_|refine w_al fun _=>?_)
 exact Qe D3 sym rfl (.cons (.cell 0 rfl rfl rfl) .nil) uc sb (.inl rfl) ⟨p',cc,_,xh18,rfl,hr3,hel,h18,uc⟩
theorem QdO {n i:Nat} {e:Nat→Int} (he:∀ k,k < n→0≤e k∧e k≤6) (hi:i < n):∀ k,k < n→0≤dwn e i k∧dwn e i k≤6:=fun k hk=>by
 have h1:=he k hk
 have h2:=he i hi
 unfold dwn
 split
 ·split<;>omega
 ·exact h1
theorem qU {n i b:Nat} {v:Value} {e:Nat→Int} {q:Rat} (hm:Mon b U M v n e q) (he:∀ k,k < n→0≤e k∧e k≤6) (hi:i < n) (hn:n≤8) (hb1:1≤b) (hb:b≤100000) :
  Ct Tryz.prog 28 [v,.int .i64 (i:Int)] G U M fun v U' D=>Mon (b+2) U' [] v n (dwn e i) (q*((e i:Int):Rat))∧D=[]:=by
 have hsq:Szq q b:=by
  obtain ⟨pe,ce,xs,x,-,-,-,-,h5,h6⟩:=hm
  exact h5.sz h6 hb1
 have hei:=he i hi
 refine (vT hm he hi hn hb1 hb).settle.mono fun v U' D _ ⟨hD,U1,D1,⟨p,c,xs,x,h1,h2,h3,h4,h5⟩,hU,hU',hs⟩=>⟨⟨some p,c,xs,x,h1,h2.len.2.1,h2.sett hs,h3.up KeptC.out hU',h4.rep.up hU' (List.Sublist.refl _),?_⟩,hD⟩
 exact h4.le (hsq.mul (Jx (k:=1) (z:=e i) (by unfold Sz; omega) (by decide))) (by omega)
theorem ji {n b:Nat} {v:Value} {e:Nat→Int} {q:Rat} (hm:Mon b U M v n e q) (he:∀ k,k < n→0≤e k∧e k≤6) (hn:n≤8) :
  Ct Tryz.prog 27 [v] G U M fun v U' D=>v = .int .i64 (exs e n:Int)∧U=U'∧D=[]:=by
 obtain ⟨pe,ce,xs,x,rfl,hce,rx,ex,hx,hxl⟩:=hm
 refine Qh Tryz.func27 rfl rfl rfl rfl ?_
 repeat (first|refine Qc ?_|refine Qa fun _=>?_|refine w_al fun _=>?_)
 rename_i b1
 try refine Qu (M':=(b1,.var (.agg #[.slice pe n ce,.bool x.num.neg,.slice x.num.p x.num.n x.num.c,.bool x.den.neg,.slice x.den.p x.den.n x.den.c]),50)::M) (ULe.refl _) sbk ?_
 refine Ql (fun z E U' M'=>∃ (k:Nat),k≤n∧U=U'∧E=[(4,.int .i64 (k:Int)),(3,.int .i64 ((exs e k):Int)),(1,.pointer (some ⟨b1,0,none⟩))]∧ULe U U'∧M'=(b1,.var (.agg #[.slice pe n ce,.bool x.num.neg,.slice x.num.p x.num.n x.num.c,.bool x.den.neg,.slice x.den.p x.den.n x.den.c]),50)::M∧z=n - k) (n0:=n - 0) (E0:=[(4,.int .i64 ((0:Nat):Int)),(3,.int .i64 ((exs e 0):Int)),(1,.pointer (some ⟨b1,0,none⟩))]) ⟨rfl,rfl,rfl,trivial⟩ ⟨0,by omega,rfl,rfl,uc,rfl,rfl⟩ ?_
 rintro z E U1 M' ⟨k,hk,rfl,rfl,hU1,rfl,rfl⟩
 try refine Qb ?_
 have hle:=jc (e:=e) (k:=k) fun t ht=>he t (by omega)
 refine Qi rfl (fun h2=>?_) (fun h2=>?_)
 ·have hkn:k < n:=by omega
  obtain ⟨w1,hw1⟩:=rx.at hkn
  obtain ⟨hv,hz⟩:=ex _ _ hw1
  subst hv
  have hek:=he k hkn
  try refine Qb ?_
  refine sl_y (Qf sym rfl rfl rfl rfl rfl rfl ((rx.up uc sb).lt hw1) ((rx.up uc sb).get _ _ hw1).1) rfl rfl rfl rfl ?_; refine sl_y (Qk sym rfl rfl rfl rfl (rx.up uc sb) hw1 rfl) rfl rfl rfl rfl ?_
  try refine Qb ?_
  rw [show (exs e k:Int)+e k=(exs e (k+1):Int) by show _=((exs e k+(e k).toNat:Nat):Int); omega]
  try refine Qb ?_
  exact Qg (E':=[(4,.int .i64 ((k:Int)+1)),(3,.int .i64 ((exs e (k+1)):Int)),(1,.pointer (some ⟨b1,0,none⟩))]) (m:=n - (k+1)) ⟨rfl,rfl,rfl,trivial⟩ (by omega) ⟨k+1,by omega,rfl,rfl,uc,rfl,rfl⟩
 ·obtain rfl:n=k:=by omega
  try refine Qb ?_
  exact Qe [] sym rfl (.cons (.tmp rfl) .nil) uc sb (.inl rfl) ⟨rfl,rfl,rfl⟩
end Go.Proofs.YthnnlgjlhnmhnaaGreat

/- Walks of layer 36: the reference's joined. -/
namespace Go.Proofs.YthnnlgjlhnmhnaaGreat
open Go.Hp
variable {G:World} {U U':UH} {M:MH}
def sme (n:Nat) (e:Nat→Nat→Int) (i k:Nat):Prop:=∀ a,a < n→e i a=e k a
open Classical in
noncomputable def cfe (m n:Nat) (e:Nat→Nat→Int) (q:Nat→Rat) (i:Nat):Rat:=La.sm m fun k=>if sme n e k i then q k else 0
open Classical in
noncomputable def jl (m n:Nat) (e:Nat→Nat→Int) (q:Nat→Rat):Nat→List Nat
 | 0=>[]
 | i+1=>if (∀ k,k < i→¬ sme n e k i)∧cfe m n e q i≠0 then jl m n e q i++[i] else jl m n e q i
theorem Qgj {m n:Nat} {e:Nat→Nat→Int} {q:Nat→Rat}:∀ {i j:Nat},j ∈ jl m n e q i→j < i
 | 0,j,h=>by cases h
 | i+1,j,h=>by
  unfold jl at h
  split at h
  ·rcases List.mem_append.1 h with h | h
   ·have:=Qgj h; omega
   ·rw [List.mem_singleton] at h; omega
  ·have:=Qgj h; omega
theorem QcC {m n:Nat} {e:Nat→Nat→Int} {q:Nat→Rat}:∀ i,(jl m n e q i).length≤i
 | 0=>Nat.le_refl 0
 | i+1=>by
  have:=QcC (m:=m) (n:=n) (e:=e) (q:=q) i
  unfold jl
  split
  ·rw [List.length_append,List.length_singleton]; omega
  ·omega
theorem Qjf {m n b:Nat} {e:Nat→Nat→Int} {q:Nat→Rat} (hq:∀ k,k < m→Szq (q k) b) (hb:1≤b) {i k:Nat} (hk:k≤m):Szq (cfe k n e q i) (1+k*(b+1)):=vh fun j hj=>by
 split
 ·exact hq j (by omega)
 ·exact Yn.mono hb
open Classical in
theorem QhJ {k n i:Nat} {e:Nat→Nat→Int} {q:Nat→Rat} (h:sme n e k i):cfe (k+1) n e q i=cfe k n e q i+q k:=by
 show La.sm k _+(if _ then _ else _)=_
 rw [if_pos h]; rfl
open Classical in
theorem Qjh {k n i:Nat} {e:Nat→Nat→Int} {q:Nat→Rat} (h:¬ sme n e k i):cfe (k+1) n e q i=cfe k n e q i:=by
 show La.sm k _+(if _ then _ else _)=_
 rw [if_neg h,Rat.add_zero]; rfl
theorem Qbl {m n i:Nat} {e:Nat→Nat→Int} {q:Nat→Rat} (h:¬ ((∀ k,k < i→¬ sme n e k i)∧cfe m n e q i≠0)):jl m n e q (i+1)=jl m n e q i:=if_neg h
theorem QcP {m n i:Nat} {e:Nat→Nat→Int} {q:Nat→Rat} (h:(∀ k,k < i→¬ sme n e k i)∧cfe m n e q i≠0):jl m n e q (i+1)=jl m n e q i++[i]:=if_pos h
theorem Vw {q:Rat}:q.num.sign=0↔q=0:=by
 rw [Int.sign_eq_zero_iff_zero]; exact Rat.num_eq_zero
set_option maxHeartbeats 4000000 in
theorem QaI {m n b c:Nat} {p:Option Addr} {ms:List Value} {e:Nat→Nat→Int} {q:Nat→Rat} (rm:RowAt U M 5 p m ms) (em:∀ i u,ms[i]?=some u→Mon b U [] u n (e i) (q i)) (hm:m≤5000) (hn:n≤8) (hb0:1≤b) (hb:b≤100000) :
  Ct Tryz.prog 26 [.slice p m c] G U M fun v U' D=>∃ (p':Option Addr) (c':Nat) (us:List Value),v = .slice p' (jl m n e q m).length c'∧RowO 50 5 D p' (jl m n e q m).length c' us∧(∀ (t:Nat) (u:Value),us[t]?=some u→∃ i,(jl m n e q m)[t]?=some i∧Mon (1+m*(b+1)) U' [] u n (e i) (cfe m n e q i))∧ULe U U':=by
 have hqs:∀ i,i < m→Szq (q i) b:=fun i hi=>by
  obtain ⟨u,hu⟩:=rm.at hi
  obtain ⟨pe,ce,xs,x,-,-,-,-,h5,h6⟩:=em i u hu
  exact h5.sz h6 hb0
 have hmb:m*(b+1)≤5000*100001:=Nat.mul_le_mul hm (by omega)
 refine Qh Tryz.func26 rfl rfl rfl rfl ?_
 repeat (first|refine Qc ?_|refine Qa fun _=>?_|refine w_al fun _=>?_)
 try refine Qu (M':=([])++M) (ULe.refl _) sbk ?_
 refine Ql (fun z E U' M'=>∃ (i:Nat) (Q:Option Addr) (C:Nat) (us:List Value) (D:MH),i≤m∧RowO 50 5 D Q (jl m n e q i).length C us∧(∀ (t:Nat) (u:Value),us[t]?=some u→∃ j,(jl m n e q i)[t]?=some j∧Mon (1+m*(b+1)) U' [] u n (e j) (cfe m n e q j))∧E=[(4,.int .i64 (i:Int)),(3,.slice Q (jl m n e q i).length C),(0,.slice p m c)]∧ULe U U'∧M'=D++M∧z=m - i) (n0:=m - 0) (E0:=[(4,.int .i64 ((0:Nat):Int)),(3,.slice none (jl m n e q 0).length 0),(0,.slice p m c)]) ⟨rfl,rfl,rfl,trivial⟩ ⟨0,none,0,[],[],by omega,RowO.nil,(fun t u h=>by cases h),rfl,uc,rfl,rfl⟩ ?_
 rintro z E U1 M' ⟨i,Q,C,us,D,hi,hrow,hus,rfl,hU1,rfl,rfl⟩
 try refine Qb ?_
 refine Qi rfl (fun h=>?_) (fun h=>?_)
 ·have hin:i < m:=by omega
  obtain ⟨v1,hv1⟩:=rm.at hin
  obtain ⟨pe,ce,xs,x,rfl,hce,rx,ex,-⟩:=em _ _ hv1
  try refine Qb ?_
  refine Qd rfl rfl rfl rfl rfl rfl (fun _=>(vO (z:=0) (by decide) (by decide)).settle) ?_
  rintro v Uh14 D hU ⟨rfl,_,_,⟨xh14,rfl,h14,-⟩,-,-,hs⟩
  replace h14:=h14.sett hs
  clear hs
  repeat (first|refine Qc ?_|refine Qa fun _=>?_|refine w_al fun _=>?_)
  rename_i b5
  try refine Qu (M':=(b5,.var xh14.v,TR)::(D++M)) (ULe.refl _) sbk ?_
  refine Ql (fun z E U' M'=>∃ (k:Nat) (tv:QV) (b1:Bool),k≤m∧tv.nrm U' [] (cfe k n e q i)∧(b1=true↔∃ j,j < k∧j < i∧sme n e j i)∧E=[(7,.int .i64 (k:Int)),(6,.bool b1),(5,.pointer (some ⟨b5,0,none⟩)),(4,.int .i64 (i:Int)),(3,.slice Q (jl m n e q i).length C),(0,.slice p m c)]∧ULe Uh14 U'∧M'=(b5,.var tv.v,TR)::(D++M)∧z=m - k) (n0:=m - 0) (E0:=[(7,.int .i64 ((0:Nat):Int)),(6,.bool false),(5,.pointer (some ⟨b5,0,none⟩)),(4,.int .i64 (i:Int)),(3,.slice Q (jl m n e q i).length C),(0,.slice p m c)]) ⟨rfl,rfl,rfl,rfl,rfl,rfl,trivial⟩ ⟨0,xh14,false,by omega,h14,⟨(fun h=>by cases h),(fun ⟨j,h,_⟩=>absurd h (Nat.not_lt_zero j))⟩,rfl,uc,rfl,rfl⟩ ?_
  clear h14
  rintro z E U2 M' ⟨k,tv,b1,hk,htv,hb1,rfl,hU2,rfl,rfl⟩
  try refine Qb ?_
  have stv:=Qjf (n:=n) (e:=e) (i:=i) hqs hb0 hk
  have hkb:k*(b+1)≤m*(b+1):=Nat.mul_le_mul_right _ hk
  refine Qi rfl (fun h2=>?_) (fun h2=>?_)
  ·have hkm:k < m:=by omega
   obtain ⟨v2,hv2⟩:=rm.at hkm
   obtain ⟨pk,ck,ys,y,rfl,hck,ry,ey,hy,hyl⟩:=em _ _ hv2
   try refine Qb ?_
   refine Qt [0,1,2,3,4,5,6,7,8,9,10] sym (by kernel_rfl) ?_
   try refine Qb ?_
   refine QB (j:=k) hkm (rm.get _ _ hv2).1 ?_
   try refine Qb ?_
   refine sl_y (Jc (j:=0) (u := .slice pk n ck) sym rfl rfl (by rw [QX]) rfl rfl (rm.up uc sb) hv2 rfl) rfl rfl rfl rfl ?_
   try refine Qb ?_
   refine QB (j:=i) hin (rm.get _ _ hv1).1 ?_
   try refine Qb ?_
   refine sl_y (Jc (j:=0) (u := .slice pe n ce) sym rfl rfl (by rw [QX]) rfl rfl (rm.up uc sb) hv1 rfl) rfl rfl rfl rfl ?_
   try refine Qb ?_
   refine Qd rfl rfl rfl rfl rfl rfl (fun _=>(Qhh (fun z=>z) (fun z=>z) (fun _ _ _ h=>h.1) (fun _ _ _ h=>h.1) ⟨pk,ck,ys,rfl,hck,ry.up uc (List.nil_sublist _),ey.up KeptC.out uc⟩ ⟨pe,ce,xs,rfl,hce,rx.up uc (List.nil_sublist _),ex.up KeptC.out uc⟩ (by omega) (by omega))) ?_
   rintro v3 U3 D3 hU3 ⟨bb,rfl,hbb,rfl,rfl⟩
   rw [List.nil_append]
   have hsm:bb=true↔sme n e k i:=hbb.trans ⟨fun h=>h.2,fun h=>⟨rfl,h⟩⟩
   cases bb
   ·have hno:¬ sme n e k i:=fun h=>Bool.noConfusion (hsm.2 h)
    have hc1:=Qjh (q:=q) hno
    try refine Qb ?_
    exact Qg (E':=[(7,.int .i64 ((k:Int)+1)),(6,.bool b1),(5,.pointer (some ⟨b5,0,none⟩)),(4,.int .i64 (i:Int)),(3,.slice Q (jl m n e q i).length C),(0,.slice p m c)]) (m:=m - (k+1)) ⟨rfl,rfl,rfl,rfl,rfl,rfl,trivial⟩ (by omega) ⟨k+1,tv,b1,by omega,(by rw [hc1]; exact htv),hb1.trans ⟨fun ⟨j,h3,h4⟩=>⟨j,by omega,h4⟩,fun ⟨j,h3,h4,h5⟩=>⟨j,(by rcases Nat.lt_or_eq_of_le (Nat.le_of_lt_succ h3) with h6 | h6; exact h6; subst h6; exact absurd h5 hno),h4,h5⟩⟩,rfl,uc,rfl,rfl⟩
   ·have hye:sme n e k i:=hsm.1 rfl
    have hc1:=QhJ (q:=q) hye
    have sqk:=hqs k hkm
    try refine Qb ?_
    refine Qx [6,7] [0,1,2,3,4,5,6,7] sym (by kernel_rfl) ?_
    try refine Qb ?_
    refine QB (j:=k) hkm (rm.get _ _ hv2).1 ?_
    try refine Qb ?_
    refine sl_y (Qau (k:=k) (j:=1) (cs:=y.v.cells.toList) sym rfl rfl (by rw [QX]) rfl rfl rfl (rm.up uc sb) hv2 rfl) rfl rfl rfl rfl ?_
    try refine Qb ?_
    refine Qd rfl rfl rfl rfl rfl rfl (fun _=>yP (htv.rep.up uc (List.nil_sublist _)) (htv.le stv (by omega)) (hy.up uc (List.nil_sublist _)) ⟨by have:=hyl.1; omega,by have:=hyl.2; omega⟩) ?_
    rintro v Uh38 D hU ⟨xh38,rfl,h38,rfl⟩
    repeat (first|refine Qc ?_|refine Qa fun _=>?_|refine w_al fun _=>?_)
    have hb2:∀ b2:Bool,(b2=true↔b1=true∨k < i)→(b2=true↔∃ j,j < k+1∧j < i∧sme n e j i):=fun b2 h=>h.trans ⟨fun h3=>by
     rcases h3 with h3 | h3
     ·obtain ⟨j,h4,h5⟩:=hb1.1 h3
      exact ⟨j,by omega,h5⟩
     ·exact ⟨k,by omega,h3,hye⟩,fun ⟨j,h3,h4,h5⟩=>by
     rcases Nat.lt_or_eq_of_le (Nat.le_of_lt_succ h3) with h6 | h6
     ·exact .inl (hb1.2 ⟨j,h6,h4,h5⟩)
     ·subst h6; exact .inr h4⟩
    cases b1
    ·try refine Qb ?_
     exact Qg (E':=[(7,.int .i64 ((k:Int)+1)),(6,.bool (dec ((k:Int) < i))),(5,.pointer (some ⟨b5,0,none⟩)),(4,.int .i64 (i:Int)),(3,.slice Q (jl m n e q i).length C),(0,.slice p m c)]) (m:=m - (k+1)) ⟨rfl,rfl,rfl,rfl,rfl,rfl,trivial⟩ (by omega) ⟨k+1,xh38,dec ((k:Int) < i),by omega,(by rw [hc1]; exact h38),hb2 _ (by rw [Jj,decide_eq_true_iff]; exact ⟨fun h => .inr (by omega),fun h=>h.elim (fun h=>by cases h) (fun h=>by omega)⟩),rfl,uc,rfl,rfl⟩
    ·try refine Qb ?_
     exact Qg (E':=[(7,.int .i64 ((k:Int)+1)),(6,.bool true),(5,.pointer (some ⟨b5,0,none⟩)),(4,.int .i64 (i:Int)),(3,.slice Q (jl m n e q i).length C),(0,.slice p m c)]) (m:=m - (k+1)) ⟨rfl,rfl,rfl,rfl,rfl,rfl,trivial⟩ (by omega) ⟨k+1,xh38,true,by omega,(by rw [hc1]; exact h38),hb2 _ ⟨fun _ => .inl rfl,fun _=>rfl⟩,rfl,uc,rfl,rfl⟩
  ·obtain rfl:m=k:=by omega
   have hus2:∀ (t:Nat) (u:Value),us[t]?=some u→∃ j,(jl m n e q i)[t]?=some j∧Mon (1+m*(b+1)) U2 [] u n (e j) (cfe m n e q j):=fun t u hu=>by
    obtain ⟨j,h6,h7⟩:=hus t u hu
    exact ⟨j,h6,h7.up uc (List.Sublist.refl _)⟩
   cases b1
   ·have hfst:∀ k,k < i→¬ sme n e k i:=fun j h3 h4=>Bool.noConfusion (hb1.2 ⟨j,by omega,h3,h4⟩)
    try refine Qb ?_
    refine Qd rfl rfl rfl rfl rfl rfl (fun _=>Qer (htv.rep.up uc (List.nil_sublist _)) (htv.le stv (by omega))) ?_
    rintro v4 U4 D4 hU4 ⟨rfl,rfl,rfl⟩
    rw [List.nil_append]
    try refine Qb ?_
    refine QK rfl (fun h3=>?_) (fun h3=>?_)
    ·have hnz:cfe m n e q i≠0:=fun h4=>h3 (Vw.2 h4)
     have hj:=QcP (m:=m) ⟨hfst,hnz⟩
     have hlen:(jl m n e q (i+1)).length=(jl m n e q i).length+1:=by rw [hj,List.length_append]; rfl
     have hjl:=QcC (m:=m) (n:=n) (e:=e) (q:=q) i
     try refine Qb ?_
     refine Qx [7,8,9,10] [0,1,2,3,4,5,6,7,8,9,10] sym (by kernel_rfl) ?_
     try refine Qb ?_
     refine QB (j:=i) hin (rm.get _ _ hv1).1 ?_
     try refine Qb ?_
     refine sl_y (Jc (j:=0) (u := .slice pe n ce) sym rfl rfl (by rw [QX]) rfl rfl (rm.up uc sb) hv1 rfl) rfl rfl rfl rfl ?_
     try refine Qb ?_
     refine Ye (v := .agg #[.slice pe n ce,.bool tv.num.neg,.slice tv.num.p tv.num.n tv.num.c,.bool tv.den.neg,.slice tv.den.p tv.den.n tv.den.c]) hrow (X:=(b5,.var tv.v,TR)::M) pgs (fun b9 P2 C2 D2 hr2=>?_)
     rw [← hlen] at hr2 ⊢
     try refine Qb ?_
     refine QU (M':=D2++M) (ULe.refl _) sbk ?_
     refine Qg (E':=[(4,.int .i64 ((i:Int)+1)),(3,.slice P2 (jl m n e q (i+1)).length C2),(0,.slice p m c)]) (m:=m - (i+1)) ⟨rfl,rfl,rfl,trivial⟩ (by omega) ⟨i+1,P2,C2,_,D2,by omega,hr2,(fun t u hu=>by
      rcases Nat.lt_trichotomy t us.length with h5 | h5 | h5
      ·rw [List.getElem?_append_left h5] at hu
       obtain ⟨j,h6,h7⟩:=hus2 t u hu
       exact ⟨j,by rw [hj,List.getElem?_append_left (by have:=hrow.len.1; omega)]; exact h6,h7.up uc (List.Sublist.refl _)⟩
      ·rw [h5,List.getElem?_concat_length] at hu
       cases hu
       exact ⟨i,by rw [hj,h5,hrow.len.1,List.getElem?_concat_length],pe,ce,xs,tv,rfl,hce,rx.up uc (List.Sublist.refl _),ex.up KeptC.out uc,htv.rep,htv.le stv (by omega)⟩
      ·rw [List.getElem?_eq_none (by rw [List.length_append,List.length_singleton]; omega)] at hu
       cases hu),rfl,uc,rfl,rfl⟩
    ·have hj:=Qbl (m:=m) (n:=n) (e:=e) (q:=q) (i:=i) fun h4=>h4.2 (Vw.1 h3)
     try refine Qb ?_
     rw [← hj] at hrow hus2 ⊢
     refine QU (M':=D++M) (ULe.refl _) sbk ?_
     exact Qg (E':=[(4,.int .i64 ((i:Int)+1)),(3,.slice Q (jl m n e q (i+1)).length C),(0,.slice p m c)]) (m:=m - (i+1)) ⟨rfl,rfl,rfl,trivial⟩ (by omega) ⟨i+1,Q,C,us,D,by omega,hrow,hus2,rfl,uc,rfl,rfl⟩
   ·have hj:=Qbl (m:=m) (n:=n) (e:=e) (q:=q) (i:=i) fun h4=>by
     obtain ⟨j,-,h5,h6⟩:=hb1.1 rfl
     exact h4.1 j h5 h6
    try refine Qb ?_
    rw [← hj] at hrow hus2 ⊢
    refine QU (M':=D++M) (ULe.refl _) sbk ?_
    exact Qg (E':=[(4,.int .i64 ((i:Int)+1)),(3,.slice Q (jl m n e q (i+1)).length C),(0,.slice p m c)]) (m:=m - (i+1)) ⟨rfl,rfl,rfl,trivial⟩ (by omega) ⟨i+1,Q,C,us,D,by omega,hrow,hus2,rfl,uc,rfl,rfl⟩
 ·obtain rfl:m=i:=by omega
  repeat (first|refine Qc ?_|refine Qa fun _=>?_|refine w_al fun _=>?_)
  exact Qe D sym rfl (.cons (.tmp rfl) .nil) uc sb (.inl rfl) ⟨Q,C,us,rfl,hrow,hus,uc⟩
theorem jh {m n b c:Nat} {p:Option Addr} {ms:List Value} {e:Nat→Nat→Int} {q:Nat→Rat} (rm:RowAt U M 5 p m ms) (em:∀ i u,ms[i]?=some u→Mon b U [] u n (e i) (q i)) (hm:m≤5000) (hn:n≤8) (hb1:1≤b) (hb:b≤100000) :
  Ct Tryz.prog 26 [.slice p m c] G U M fun v U' D=>∃ (p':Option Addr) (c':Nat) (us:List Value),v = .slice p' (jl m n e q m).length c'∧RowAt U' [] 5 p' (jl m n e q m).length us∧(∀ (t:Nat) (u:Value),us[t]?=some u→∃ i,(jl m n e q m)[t]?=some i∧Mon (1+m*(b+1)) U' [] u n (e i) (cfe m n e q i))∧D=[] :=
 (QaI rm em hm hn hb1 hb).settle.mono fun _ _ _ _ ⟨h1,_,_,⟨p',c',us,h2,h3,h4,_⟩,_,h5,h6⟩=>⟨p',c',us,h2,h3.sett h6,fun t u hu=>by
  obtain ⟨i,h7,h8⟩:=h4 t u hu
  exact ⟨i,h7,h8.up h5 (List.Sublist.refl _)⟩,h1⟩
end Go.Proofs.YthnnlgjlhnmhnaaGreat

/- Walks of layer 36: the reference's Harmonic. -/
namespace Go.Proofs.YthnnlgjlhnmhnaaGreat
open Go.Hp
variable {G:World} {U U':UH} {M:MH}
def eL (n:Nat) (e:Nat→Nat→Int) (J:List Nat) (s:Nat):Nat→Int:=dwn (dwn (e (J.getD (s / (n*n)) 0)) (s % (n*n) / n)) (s % n)
def qL (n:Nat) (e:Nat→Nat→Int) (cf:Nat→Rat) (J:List Nat) (X:Nat→Nat→Rat) (s:Nat):Rat :=
 cf (J.getD (s / (n*n)) 0)*((e (J.getD (s / (n*n)) 0) (s % (n*n) / n):Int):Rat)*((dwn (e (J.getD (s / (n*n)) 0)) (s % (n*n) / n) (s % n):Int):Rat)*X (s % (n*n) / n) (s % n)
theorem ixs {n t i k:Nat} (hi:i < n) (hk:k < n):(t*(n*n)+i*n+k) / (n*n)=t∧(t*(n*n)+i*n+k) % (n*n) / n=i∧(t*(n*n)+i*n+k) % n=k:=by
 have h0:0 < n:=by omega
 have h1:i*n+k < n*n:=by
  have:=Nat.mul_le_mul_right n (show i+1≤n by omega)
  rw [Nat.succ_mul] at this
  omega
 have h2:0 < n*n:=Nat.mul_pos h0 h0
 have h3:t*(n*n)+i*n+k=i*n+k+n*n*t:=by rw [Nat.mul_comm t]; omega
 have h4:i*n+k=k+n*i:=by rw [Nat.mul_comm i]; omega
 rw [h3]
 refine ⟨?_,?_,?_⟩
 ·rw [Nat.add_mul_div_left _ _ h2,Nat.div_eq_of_lt h1,Nat.zero_add]
 ·rw [Nat.add_mul_mod_self_left,Nat.mod_eq_of_lt h1,h4,Nat.add_mul_div_left _ _ h0,Nat.div_eq_of_lt hk,Nat.zero_add]
 ·rw [Nat.mul_assoc,Nat.add_mul_mod_self_left,h4,Nat.add_mul_mod_self_left,Nat.mod_eq_of_lt hk]
def RHm (n np:Nat) (e:Nat→Nat→Int) (q:Nat→Rat) (X:Nat→Nat→Rat):Prop :=
 (∀ t,t < (jl np n e q np).length→exs (e ((jl np n e q np).getD t 0)) n=exs (e ((jl np n e q np).getD 0 0)) n) ∧
 (jl ((jl np n e q np).length*(n*n)) n (eL n e (jl np n e q np)) (qL n e (cfe np n e q) (jl np n e q np) X) ((jl np n e q np).length*(n*n))).length=0
set_option maxHeartbeats 4000000 in
theorem ve {N c np kb:Nat} {r:Int} {p:Option Addr} {vp:Value} {vs:List Value} {f:Nat→Int} {ne:Nat→Nat} {e:Nat→Nat→Int} {qq:Nat→Rat} (rw1:RowAt U [] 1 p N vs) (el:El Vz U vs f) (hc:N≤c) (hN:N≤9223372036854775807)
  (hpl:Pol kb U [] vp np ne e qq) (hnp:np≤9223372036854775807) (hne:∀ i,i < np→ne i≤9223372036854775807) (hb1:1≤kb) (hb2:kb≤100) :
  Ct Tryz.prog 8 [.agg #[.int .i64 r,.slice p N c],vp] G U M fun v U' D=>(chk r N f≠0→v = .tuple #[.bool false,.int .i64 (chk r N f)]) ∧
   (∀ n:Nat,r=(n:Int)→chk r N f=0→(perr n np ne e≠0→v = .tuple #[.bool false,.int .i64 (perr n np ne e)])∧(perr n np ne e=0→∃ X,Inv n f X∧∃ hb:Bool,v = .tuple #[.bool hb,.int .i64 0]∧(hb=true↔RHm n np e qq X)))∧D=[]:=by
 obtain ⟨pp,cp,ms,hpe,hcp,rm,em⟩:=id hpl
 subst hpe
 refine Qh Tryz.func8 rfl rfl rfl rfl ?_
 repeat (first|refine Qc ?_|refine Qa fun _=>?_|refine w_al fun _=>?_)
 rename_i b2
 refine Qd rfl rfl rfl rfl rfl rfl (fun _=>Ve (rw1.up uc (List.nil_sublist _)) (el.up KeptC.out uc) hc hN) ?_
 rintro v1 U1 D hU1 ⟨rfl,-,rfl⟩
 rw [List.nil_append]
 repeat (first|refine Qc ?_|refine Qa fun _=>?_|refine w_al fun _=>?_)
 refine QK rfl (fun h=>?_) (fun h=>?_)
 ·repeat (first|refine Qc ?_|refine Qa fun _=>?_|refine w_al fun _=>?_)
  exact Qe [] sym rfl (.cons (.tmp rfl) (.cons (.tmp rfl) .nil)) uc sb (.inl rfl) ⟨fun _=>rfl,fun _ _ h0=>absurd h0 h,rfl⟩
 obtain ⟨n,rfl,hn1,hn8,rfl,hb,he,hp⟩:=Jm h
 rw [h]
 repeat (first|refine Qc ?_|refine Qa fun _=>?_|refine w_al fun _=>?_)
 refine Qd rfl rfl rfl rfl rfl rfl (fun _=>vB (hpl.up uc (List.nil_sublist _)) hnp hne hn8) ?_
 rintro v2 U2 D2 hU2 ⟨rfl,rfl,rfl⟩
 rw [List.nil_append]
 repeat (first|refine Qc ?_|refine Qa fun _=>?_|refine w_al fun _=>?_)
 refine QK rfl (fun h3=>?_) (fun h3=>?_)
 ·have hc8:∀ n':Nat,(n:Int)=(n':Int)→(0:Int)=0→(perr n' np ne e≠0→tup [.bool false,.int .i64 (perr n np ne e)] = .tuple #[.bool false,.int .i64 (perr n' np ne e)])∧(perr n' np ne e=0→∃ X,Inv n' f X∧∃ hb:Bool,tup [.bool false,.int .i64 (perr n np ne e)] = .tuple #[.bool hb,.int .i64 0]∧(hb=true↔RHm n' np e qq X)):=fun n' e1 _=>by
   obtain rfl:n=n':=Int.ofNat.inj e1
   exact ⟨fun _=>rfl,fun h4=>absurd h4 h3⟩
  repeat (first|refine Qc ?_|refine Qa fun _=>?_|refine w_al fun _=>?_)
  exact Qe [] sym rfl (.cons (.tmp rfl) (.cons (.tmp rfl) .nil)) uc sb (.inl rfl) ⟨fun h=>absurd rfl h,hc8,rfl⟩
 obtain ⟨h60,hfi⟩:=VH h3
 obtain ⟨X,hX⟩:=vL hb he hp hn1 hn8
 have hone:∀ bb:Bool,(bb=true↔RHm n np e qq X)→∀ n':Nat,(n:Int)=(n':Int)→(0:Int)=0→(perr n' np ne e≠0→tup [.bool bb,.int .i64 0] = .tuple #[.bool false,.int .i64 (perr n' np ne e)])∧(perr n' np ne e=0→∃ X,Inv n' f X∧∃ hb:Bool,tup [.bool bb,.int .i64 0] = .tuple #[.bool hb,.int .i64 0]∧(hb=true↔RHm n' np e qq X)):=fun bb hbb n' e1 _=>by
  obtain rfl:n=n':=Int.ofNat.inj e1
  exact ⟨fun h4=>absurd h3 h4,fun _=>⟨X,hX,bb,rfl,hbb⟩⟩
 unfold RHm at hone
 have hbk:np*(kb+1)≤60*101:=Nat.mul_le_mul h60 (by omega)
 repeat (first|refine Qc ?_|refine Qa fun _=>?_|refine w_al fun _=>?_)
 refine Qd rfl rfl rfl rfl rfl rfl (fun _=>jh (n:=n) (rm.up uc (List.nil_sublist _)) (fun i u hu=>by have h8:=em i u hu; rw [(hfi i (rm.lt hu)).1] at h8; exact h8.up uc (List.Sublist.refl _)) (by omega) hn8 hb1 (by omega)) ?_
 rintro v3 U3 D3 hU3 ⟨pq,cq,us,rfl,hrq,huq,rfl⟩
 rw [List.nil_append]
 obtain ⟨b0,hb0⟩:∃ b0,b0=1+np*(kb+1):=⟨_,rfl⟩
 rw [← hb0] at huq
 have hJl:=QcC (m:=np) (n:=n) (e:=e) (q:=qq) np
 have hJm:∀ t,t < (jl np n e qq np).length→(jl np n e qq np).getD t 0 < np:=fun t ht=>by
  rw [List.getD_eq_getElem?_getD,List.getElem?_eq_getElem ht]
  exact Qgj (List.getElem_mem ht)
 replace huq:∀ (t:Nat) (u:Value),us[t]?=some u→Mon b0 U3 [] u n (e ((jl np n e qq np).getD t 0)) (cfe np n e qq ((jl np n e qq np).getD t 0)):=fun t u hu=>by
  obtain ⟨i,h4,h5⟩:=huq t u hu
  rw [List.getD_eq_getElem?_getD,h4]
  exact h5
 obtain ⟨J,hJ⟩:∃ J,J=jl np n e qq np:=⟨_,rfl⟩
 obtain ⟨cf,hcf⟩:∃ cf,cf=cfe np n e qq:=⟨_,rfl⟩
 rw [← hJ] at hone hrq huq hJl hJm ⊢
 rw [← hcf] at hone huq
 have hJ60:J.length≤60:=by omega
 have hnn:n*n≤64:=Nat.mul_le_mul hn8 hn8
 have hJnn:J.length*(n*n)≤60*64:=Nat.mul_le_mul hJ60 hnn
 repeat (first|refine Qc ?_|refine Qa fun _=>?_|refine w_al fun _=>?_)
 try refine Qu (M':=(b2,.var (.agg #[.int .i64 (n:Int),.slice p (n*n) c]),24)::(([])++M)) (ULe.refl _) sbk ?_
 refine Ql (fun z E U' M'=>∃ (tq:Nat) (Q:Option Addr) (C Ln:Nat) (us1:List Value) (D:MH),tq≤J.length∧Ln=tq*(n*n)∧RowO 50 5 D Q Ln C us1∧(∀ (s:Nat) (u:Value),us1[s]?=some u→Mon (b0+7) U' [] u n (eL n e J s) (qL n e cf J X s))∧(∀ t1,t1 < tq→exs (e (J.getD t1 0)) n=exs (e (J.getD 0 0)) n)∧E=[(10,.int .i64 (tq:Int)),(9,.slice Q Ln C),(8,.slice pq J.length cq),(5,.int .i64 0),(2,.pointer (some ⟨b2,0,none⟩))]∧ULe U3 U'∧M'=(b2,.var (.agg #[.int .i64 (n:Int),.slice p (n*n) c]),24)::(D++M)∧z=J.length - tq) (n0:=J.length - 0) (E0:=[(10,.int .i64 ((0:Nat):Int)),(9,.slice none 0 0),(8,.slice pq J.length cq),(5,.int .i64 0),(2,.pointer (some ⟨b2,0,none⟩))]) ⟨rfl,rfl,rfl,rfl,rfl,trivial⟩ ⟨0,none,0,0,[],[],by omega,by rw [Nat.zero_mul],RowO.nil,(fun s u h=>by cases h),(fun t1 h=>absurd h (Nat.not_lt_zero t1)),rfl,uc,rfl,rfl⟩ ?_
 rintro z E U4 M' ⟨tq,Q,C,Ln,us1,D,ht,hLn,hrow,hus,hdeg,rfl,hU4,rfl,rfl⟩
 try refine Qb ?_
 refine Qi rfl (fun h4=>?_) (fun h4=>?_)
 ·have htJ:tq < J.length:=by omega
  obtain ⟨v1,hv1⟩:=hrq.at htJ
  have hm1:=huq tq v1 hv1
  obtain ⟨pe,ce,xs,x,rfl,hm1'⟩:=id hm1
  obtain ⟨v2,hv2⟩:=hrq.at (k:=0) (by omega)
  have hm2:=huq 0 v2 hv2
  obtain ⟨pe2,ce2,xs2,x2,rfl,hm2'⟩:=id hm2
  have hf1:=(hfi _ (hJm tq htJ)).2
  have hf2:=(hfi _ (hJm 0 (by omega))).2
  try refine Qb ?_
  refine Qt [0,1,2,3,5,6,7,4,8,9] sym (by kernel_rfl) ?_
  try refine Qb ?_
  refine sl_y (Qf sym rfl rfl rfl rfl rfl rfl ((hrq.up uc sb).lt hv1) ((hrq.up uc sb).get _ _ hv1).1) rfl rfl rfl rfl ?_; refine sl_y (Qp sym rfl rfl rfl rfl rfl (hrq.up uc sb) hv1) rfl rfl rfl rfl ?_
  try refine Qb ?_
  refine sl_y (Qf sym rfl rfl rfl rfl rfl rfl ((hrq.up uc sb).lt hv2) ((hrq.up uc sb).get _ _ hv2).1) rfl rfl rfl rfl ?_; refine sl_y (Qp sym rfl rfl rfl rfl rfl (hrq.up uc sb) hv2) rfl rfl rfl rfl ?_
  try refine Qb ?_
  refine Qd rfl rfl rfl rfl rfl rfl (fun _=>ji (hm1.up uc (List.nil_sublist _)) hf1 hn8) ?_
  rintro v5 U5 D5 hU5 ⟨rfl,rfl,rfl⟩
  rw [List.nil_append]
  try refine Qb ?_
  refine Qd rfl rfl rfl rfl rfl rfl (fun _=>ji (hm2.up uc (List.nil_sublist _)) hf2 hn8) ?_
  rintro v5 U5 D5 hU5 ⟨rfl,rfl,rfl⟩
  rw [List.nil_append]
  try refine Qb ?_
  refine QK rfl (fun h5=>?_) (fun h5=>?_)
  ·have hc8:=hone false ⟨(fun h=>by cases h),(fun h=>absurd (h.1 tq htJ) (by omega))⟩
   repeat (first|refine Qc ?_|refine Qa fun _=>?_|refine w_al fun _=>?_)
   exact Qe [] sym rfl (.cons (.tmp rfl) (.cons (.tmp rfl) .nil)) uc sb (.inl rfl) ⟨fun h=>absurd rfl h,hc8,rfl⟩
  ·have hdg:exs (e (J.getD tq 0)) n=exs (e (J.getD 0 0)) n:=by omega
   try refine Qb ?_
   try refine Qu (M':=(b2,.var (.agg #[.int .i64 (n:Int),.slice p (n*n) c]),24)::(D++M)) (ULe.refl _) sbk ?_
   refine Ql (fun z E U' M'=>∃ (i:Nat) (Q:Option Addr) (C Ln:Nat) (us1:List Value) (D:MH),i≤n∧Ln=tq*(n*n)+i*n∧RowO 50 5 D Q Ln C us1∧(∀ (s:Nat) (u:Value),us1[s]?=some u→Mon (b0+7) U' [] u n (eL n e J s) (qL n e cf J X s))∧E=[(11,.int .i64 (i:Int)),(10,.int .i64 (tq:Int)),(9,.slice Q Ln C),(8,.slice pq J.length cq),(5,.int .i64 0),(2,.pointer (some ⟨b2,0,none⟩))]∧ULe U4 U'∧M'=(b2,.var (.agg #[.int .i64 (n:Int),.slice p (n*n) c]),24)::(D++M)∧z=n - i) (n0:=n - 0) (E0:=[(11,.int .i64 ((0:Nat):Int)),(10,.int .i64 (tq:Int)),(9,.slice Q Ln C),(8,.slice pq J.length cq),(5,.int .i64 0),(2,.pointer (some ⟨b2,0,none⟩))]) ⟨rfl,rfl,rfl,rfl,rfl,rfl,trivial⟩ ⟨0,Q,C,Ln,us1,D,by omega,by rw [Nat.zero_mul]; exact hLn,hrow,hus,rfl,uc,rfl,rfl⟩ ?_
   clear hLn hrow hus
   rintro z E U6 M' ⟨i,Q,C,Ln,us1,D,hi,hLn,hrow,hus,rfl,hU6,rfl,rfl⟩
   try refine Qb ?_
   refine Qi rfl (fun h6=>?_) (fun h6=>?_)
   ·have hin:i < n:=by omega
    try refine Qb ?_
    try refine Qu (M':=(b2,.var (.agg #[.int .i64 (n:Int),.slice p (n*n) c]),24)::(D++M)) (ULe.refl _) sbk ?_
    refine Ql (fun z E U' M'=>∃ (k:Nat) (Q:Option Addr) (C Ln:Nat) (us1:List Value) (D:MH),k≤n∧Ln=tq*(n*n)+i*n+k∧RowO 50 5 D Q Ln C us1∧(∀ (s:Nat) (u:Value),us1[s]?=some u→Mon (b0+7) U' [] u n (eL n e J s) (qL n e cf J X s))∧E=[(12,.int .i64 (k:Int)),(11,.int .i64 (i:Int)),(10,.int .i64 (tq:Int)),(9,.slice Q Ln C),(8,.slice pq J.length cq),(5,.int .i64 0),(2,.pointer (some ⟨b2,0,none⟩))]∧ULe U6 U'∧M'=(b2,.var (.agg #[.int .i64 (n:Int),.slice p (n*n) c]),24)::(D++M)∧z=n - k) (n0:=n - 0) (E0:=[(12,.int .i64 ((0:Nat):Int)),(11,.int .i64 (i:Int)),(10,.int .i64 (tq:Int)),(9,.slice Q Ln C),(8,.slice pq J.length cq),(5,.int .i64 0),(2,.pointer (some ⟨b2,0,none⟩))]) ⟨rfl,rfl,rfl,rfl,rfl,rfl,rfl,trivial⟩ ⟨0,Q,C,Ln,us1,D,by omega,hLn,hrow,hus,rfl,uc,rfl,rfl⟩ ?_
    clear hLn hrow hus
    rintro z E U7 M' ⟨k,Q,C,Ln,us1,D,hk,hLn,hrow,hus,rfl,hU7,rfl,rfl⟩
    try refine Qb ?_
    refine Qi rfl (fun h7=>?_) (fun h7=>?_)
    ·have hkn:k < n:=by omega
     have hei:=hf1 i hin
     have hLn2:Ln < 60*64:=by
      have h8:=Nat.mul_le_mul_right (n*n) (show tq+1≤J.length by omega)
      rw [Nat.succ_mul] at h8
      have h9:=Nat.mul_le_mul_right n (show i+1≤n by omega)
      rw [Nat.succ_mul] at h9
      omega
     try refine Qb ?_
     refine sl_y (Qf sym rfl rfl rfl rfl rfl rfl ((hrq.up uc sb).lt hv1) ((hrq.up uc sb).get _ _ hv1).1) rfl rfl rfl rfl ?_; refine sl_y (Qp sym rfl rfl rfl rfl rfl (hrq.up uc sb) hv1) rfl rfl rfl rfl ?_
     try refine Qb ?_
     refine Qd rfl rfl rfl rfl rfl rfl (fun _=>qU (hm1.up uc (List.nil_sublist _)) hf1 hin hn8 (by omega) (by omega)) ?_
     rintro v8 U8 D8 hU8 ⟨hm8,rfl⟩
     rw [List.nil_append]
     try refine Qb ?_
     refine Qd rfl rfl rfl rfl rfl rfl (fun _=>qU (hm8.up uc (List.nil_sublist _)) (QdO hf1 hin) hkn hn8 (by omega) (by omega)) ?_
     rintro v9 U9 D9 hU9 ⟨hm9,rfl⟩
     rw [List.nil_append]
     obtain ⟨pe9,ce9,xs9,x9,rfl,hce9,rx9,ex9,hx9,hl9⟩:=hm9
     repeat (first|refine Qc ?_|refine Qa fun _=>?_|refine w_al fun _=>?_)
     rename_i b13
     refine Qx [6,7,8] [0,1,2,3,4,5,6,7,8] sym (by kernel_rfl) ?_
     try refine Qb ?_
     refine Qd rfl rfl rfl rfl rfl rfl (fun _=>qW (rw1.up uc (List.nil_sublist _)) (el.up KeptC.out uc) hb he hp hn1 hn8 hc hin hkn hX) ?_
     rintro v10 U10 D10 hU10 ⟨x10,rfl,hx10,rfl⟩
     rw [List.nil_append]
     try refine Qb ?_
     have s9:=hx9.sz hl9 (by omega)
     have s10:=hX.sz i k hin hkn
     refine Qd rfl rfl rfl rfl rfl rfl (fun _=>jD (hx9.up uc (List.nil_sublist _)) ⟨by have:=hl9.1; omega,by have:=hl9.2; omega⟩ (hx10.rep.up uc (List.nil_sublist _)) (hx10.le s10 (by decide))) ?_
     rintro v Uh69 D hU ⟨xh69,rfl,h69,rfl⟩
     repeat (first|refine Qc ?_|refine Qa fun _=>?_|refine w_al fun _=>?_)
     refine Vx 0 sym rfl rfl rfl rfl rfl rfl rfl rfl rfl rfl rfl ?_
     refine Qj (M':=(b13,.var (.agg #[.slice pe9 n ce9,.bool xh69.num.neg,.slice xh69.num.p xh69.num.n xh69.num.c,.bool xh69.den.neg,.slice xh69.den.p xh69.den.n xh69.den.c]),50)::(b2,.var (.agg #[.int .i64 (n:Int),.slice p (n*n) c]),24)::(D++M)) ?_ (List.Perm.refl _)
     try refine Qb ?_
     refine Ye (v := .agg #[.slice pe9 n ce9,.bool xh69.num.neg,.slice xh69.num.p xh69.num.n xh69.num.c,.bool xh69.den.neg,.slice xh69.den.p xh69.den.n xh69.den.c]) hrow (X:=(b13,.var (.agg #[.slice pe9 n ce9,.bool xh69.num.neg,.slice xh69.num.p xh69.num.n xh69.num.c,.bool xh69.den.neg,.slice xh69.den.p xh69.den.n xh69.den.c]),50)::(b2,.var (.agg #[.int .i64 (n:Int),.slice p (n*n) c]),24)::M) pgs (fun b74 P2 C2 D2 hr2=>?_)
     refine Qj (M':=(b13,.var (.agg #[.slice pe9 n ce9,.bool xh69.num.neg,.slice xh69.num.p xh69.num.n xh69.num.c,.bool xh69.den.neg,.slice xh69.den.p xh69.den.n xh69.den.c]),50)::(b2,.var (.agg #[.int .i64 (n:Int),.slice p (n*n) c]),24)::(D2++M)) ?_ pgs
     try refine Qb ?_
     refine QU (M':=(b2,.var (.agg #[.int .i64 (n:Int),.slice p (n*n) c]),24)::(D2++M)) (ULe.refl _) sbk ?_
     obtain ⟨q1,q2,q3⟩:=ixs (t:=tq) hin hkn
     rw [← hLn] at q1 q2 q3
     refine Qg (E':=[(12,.int .i64 ((k:Int)+1)),(11,.int .i64 (i:Int)),(10,.int .i64 (tq:Int)),(9,.slice P2 (Ln+1) C2),(8,.slice pq J.length cq),(5,.int .i64 0),(2,.pointer (some ⟨b2,0,none⟩))]) (m:=n - (k+1)) ⟨rfl,rfl,rfl,rfl,rfl,rfl,rfl,trivial⟩ (by omega) ⟨k+1,P2,C2,Ln+1,_,D2,by omega,by omega,hr2,(fun s u hu=>by
      rcases Nat.lt_trichotomy s us1.length with h8 | h8 | h8
      ·rw [List.getElem?_append_left h8] at hu
       exact (hus s u hu).up uc (List.Sublist.refl _)
      ·rw [h8,List.getElem?_concat_length] at hu
       cases hu
       have hl8:=hrow.len.1
       rw [h8,hl8]
       refine ⟨pe9,ce9,xs9,xh69,rfl,hce9,rx9.up uc (List.Sublist.refl _),?_,?_,?_⟩
       ·unfold eL
        rw [q1,q2,q3]
        exact ex9.up KeptC.out uc
       ·unfold qL
        rw [q1,q2,q3]
        exact h69.rep
       ·exact h69.le (s9.mul s10) (by omega)
      ·rw [List.getElem?_eq_none (by rw [List.length_append,List.length_singleton]; omega)] at hu
       cases hu),rfl,uc,rfl,rfl⟩
    ·obtain rfl:n=k:=by omega
     try refine Qb ?_
     exact Qg (E':=[(11,.int .i64 ((i:Int)+1)),(10,.int .i64 (tq:Int)),(9,.slice Q Ln C),(8,.slice pq J.length cq),(5,.int .i64 0),(2,.pointer (some ⟨b2,0,none⟩))]) (m:=n - (i+1)) ⟨rfl,rfl,rfl,rfl,rfl,rfl,trivial⟩ (by omega) ⟨i+1,Q,C,Ln,us1,D,by omega,(by rw [Nat.succ_mul]; omega),hrow,hus,rfl,uc,rfl,rfl⟩
   ·obtain rfl:n=i:=by omega
    try refine Qb ?_
    exact Qg (E':=[(10,.int .i64 ((tq:Int)+1)),(9,.slice Q Ln C),(8,.slice pq J.length cq),(5,.int .i64 0),(2,.pointer (some ⟨b2,0,none⟩))]) (m:=J.length - (tq+1)) ⟨rfl,rfl,rfl,rfl,rfl,trivial⟩ (by omega) ⟨tq+1,Q,C,Ln,us1,D,by omega,(by rw [Nat.succ_mul]; omega),hrow,hus,(fun t1 h8=>by
     rcases Nat.lt_or_eq_of_le (Nat.le_of_lt_succ h8) with h9 | h9
     ·exact hdeg t1 h9
     ·rw [h9]; exact hdg),rfl,uc,rfl,rfl⟩
 ·obtain rfl:J.length=tq:=by omega
  rw [← hLn] at hone hJnn
  repeat (first|refine Qc ?_|refine Qa fun _=>?_|refine w_al fun _=>?_)
  refine Qd rfl rfl rfl rfl rfl rfl (fun _=>jh (n:=n) (hrow.at sb) hus (by omega) hn8 (by omega) (by omega)) ?_
  rintro v11 U11 D11 hU11 ⟨pz,cz,us3,rfl,-,-,rfl⟩
  rw [List.nil_append]
  have hc8:=hone (dec (((jl Ln n (eL n e J) (qL n e cf J X) Ln).length:Int)=0)) (by
   rw [Jj,decide_eq_true_iff]
   exact ⟨fun h8=>⟨hdeg,by omega⟩,fun h8=>by have:=h8.2; omega⟩)
  repeat (first|refine Qc ?_|refine Qa fun _=>?_|refine w_al fun _=>?_)
  exact Qe [] sym rfl (.cons (.tmp rfl) (.cons (.tmp rfl) .nil)) uc sb (.inl rfl) ⟨fun h=>absurd rfl h,hc8,rfl⟩
end Go.Proofs.YthnnlgjlhnmhnaaGreat

/- Maps from arrays of numbers to fractions. -/
namespace Go.Proofs.YthnnlgjlhnmhnaaGreat
open Go.Hp
variable {K:Kont} {N:Nat} {G:World} {E:Env} {U U' U0:UH} {M M':MH} {L:List Oper} {l:List Ent} {f:Bool} {i:Nat} {o:Oper} {w:World} {P:Program} {T:TT}
theorem Dig.ue {p:Option Addr} {n c:Nat} {l:List Nat} (h:Dig U M p n c l) (hU:UE U U'):Dig U' M p n c l :=
 ⟨h.len,h.cap,h.capm,h.bd,fun k d hk=>⟨(h.cell k d hk).1,hU M _ _ (h.cell k d hk).2⟩⟩
theorem IV.nrm.ue {x:IV} {z:Int} (h:x.nrm U M z) (hU:UE U U'):x.nrm U' M z:=by
 obtain ⟨l,h1,h2⟩:=h; exact ⟨l,h1.ue hU,h2⟩
theorem QV.nrm.ue {x:QV} {q:Rat} (h:x.nrm U M q) (hU:UE U U'):x.nrm U' M q:=⟨h.1.ue hU,h.2.ue hU⟩
theorem Vq.ue {v:Value} {q:Rat} (h:Vq U v q) (hU:UE U U'):Vq U' v q:=by
 obtain ⟨x,h1,h2⟩:=h; exact ⟨x,h1,h2.ue hU⟩
structure MapQ (n:Nat) (U:UH) (es:Array MapEntry) (F:List Int→Rat):Prop where
 val:∀ (κ:List Int) (v:Value),κ.length=n→Holds es (kyv κ) v→Vq U v (F κ)
 none:∀ κ:List Int,κ.length=n→(∀ e ∈ es.toList,e.key≠kyv κ)→F κ=0
theorem MapQ.nil {n:Nat}:MapQ n U #[] fun _=>0:=⟨fun κ v _ ⟨e,he,_⟩=>(by cases he),fun _ _ _=>rfl⟩
theorem MapQ.ue {n:Nat} {es:Array MapEntry} {F:List Int→Rat} (h:MapQ n U es F) (hU:UE U U'):MapQ n U' es F:=⟨fun κ v h1 h2=>(h.val κ v h1 h2).ue hU,h.none⟩
theorem MapQ.set {n:Nat} {es es':Array MapEntry} {F:List Int→Rat} {κ:List Int} {v:Value} {q:Rat} (h:MapQ n U es F) (hs:Stored es es' (kyv κ) v) (hv:Vq U v q):MapQ n U es' fun μ=>if μ=κ then q else F μ:=by
 refine ⟨fun μ u h1 h2=>?_,fun μ h1 h2=>?_⟩
 ·rcases (hs _ _).1 h2 with ⟨h3,rfl⟩ | ⟨h3,h4⟩
  ·rw [if_pos (QdV h3)]; exact hv
  ·rw [if_neg fun e=>h3 (by rw [e])]; exact h.val μ u h1 h4
 ·have hne:μ≠κ:=fun e=>by
   obtain ⟨x,h3,h4,-⟩:=(hs (kyv κ) v).2 (.inl ⟨rfl,rfl⟩)
   exact h2 x h3 (by rw [h4,e])
  show (if μ=κ then q else F μ)=0
  rw [if_neg hne]
  refine h.none μ h1 fun e he hk=>?_
  obtain ⟨x,h3,h4,-⟩:=(hs (kyv μ) e.val).2 (.inr ⟨fun e2=>hne (QdV e2),e,he,hk,rfl⟩)
  exact h2 x h3 h4
theorem QbA {d t b k el n bd:Nat} {x ix:Operand} {κ:List Int} {es:Array MapEntry} {clock:Nat} {F:List Int→Rat} (ho:o.op = .lookup t x ix false) (hx:ev E x=some (.map (some b))) (hi:ev E ix=some (kyv κ)) (hu:P.underlying t=some (.map k el)) (hK:KeyT P k (Arr n)) (hκ:κ.length=n) (hz:∀ w,(zeroValue el).run P w = .ok zeroQV.v w)
  (hU:U b=some (.map es clock)) (hC:MapC (Arr n) es clock) (hQ:MapQ n U es F) (hsz:Szq (F κ) bd) (hg:gok L E o.guard=some true) (hk:yB f T o=true) (hd:o.dst=some d) (hN:Nat.blt d N=true)
  (h:∀ q:QV,q.rep U [] (F κ)→q.le bd→SL P T L K N G l ((d,q.v)::E) U M):SL P T L K N G ((f,i,o)::l) E U M:=by
 refine Qeo ho hx hi hu hK (QaX hκ) hz hU hC hg hk hd hN (fun v hv=>?_) (fun hn=>?_)
 ·obtain ⟨q,rfl,hq⟩:=hQ.val κ v hκ hv
  exact h q hq.rep (hq.le hsz (Nat.le_refl _))
 ·refine h zeroQV ?_ ⟨Nat.zero_le _,Nat.zero_le _⟩
  rw [hQ.none κ hκ hn]; exact vE
end Go.Proofs.YthnnlgjlhnmhnaaGreat

/- The sum of the second derivatives, key by key: what the program's Harmonic adds up. -/
namespace Go.Proofs.YthnnlgjlhnmhnaaGreat
open Go.Hp
variable {U U':UH} {M:MH}
def kyl (n:Nat) (e:Nat→Int):List Int:=(List.range n).map e++(List.replicate 8 0).drop n
theorem qD {n:Nat} {e:Nat→Int} (hn:n≤8):(kyl n e).length=8:=by
 unfold kyl
 rw [List.length_append,List.length_map,List.length_range,List.length_drop,List.length_replicate]
 omega
def fsm (i n:Nat) (e:Nat→Nat→Int) (q:Nat→Rat) (κ:List Int):Rat:=La.sm i fun j=>if kyl n (e j)=κ then q j else 0
theorem Qfq {m n b:Nat} {e:Nat→Nat→Int} {q:Nat→Rat} (hq:∀ k,k < m→Szq (q k) b) (hb:1≤b) {k:Nat} (hk:k≤m) (κ:List Int):Szq (fsm k n e q κ) (1+k*(b+1)):=vh fun j hj=>by
 split
 ·exact hq j (by omega)
 ·exact Yn.mono hb
theorem QhS {n:Nat} {vs:List Value} {f:Nat→Int} (h:El Vz U vs f) (hn:vs.length=n):vs=((List.range n).map f).map (Value.int .i64):=List.ext_getElem? fun k=>by
 rw [List.map_map,List.getElem?_map]
 by_cases hk:k < n
 ·rw [List.getElem?_range hk,List.getElem?_eq_getElem (by omega)]
  have:=(h k _ (List.getElem?_eq_getElem (by omega))).1
  rw [this]; rfl
 ·rw [List.getElem?_eq_none (by omega),List.getElem?_eq_none (by rw [List.length_range]; omega)]; rfl
abbrev kat (κ:List Int) (a:Nat):Int:=κ.getD a 0
theorem VF {κ:List Int} {a:Nat} (h:a < κ.length):κ[a]?=some (kat κ a):=by
 unfold kat
 rw [List.getD_eq_getElem?_getD,List.getElem?_eq_getElem h]; rfl
theorem YO {n a:Nat} {e:Nat→Int}:kat (kyl n e) a=if a < n then e a else 0:=by
 unfold kat kyl
 rw [List.getD_eq_getElem?_getD]
 by_cases h:a < n
 ·rw [if_pos h,List.getElem?_append_left (by rw [List.length_map,List.length_range]; exact h),List.getElem?_map,List.getElem?_range h]; rfl
 ·rw [if_neg h,List.getElem?_append_right (by rw [List.length_map,List.length_range]; omega),List.getElem?_drop]
  cases h2:(List.replicate 8 (0:Int))[n+(a - (List.map e (List.range n)).length)]? with
  | none=>rfl
  | some z =>
   have:=List.mem_of_getElem? h2
   rw [(List.mem_replicate.1 this).2]; rfl
theorem Qdi {κ:List Int} {a b:Nat} {z:Int} (h:a < κ.length):kat (κ.set a z) b=if b=a then z else kat κ b:=by
 unfold kat
 rw [List.getD_eq_getElem?_getD,List.getD_eq_getElem?_getD]
 by_cases e:b=a
 ·subst e
  rw [if_pos rfl,List.getElem?_set_self h]; rfl
 ·rw [if_neg e,List.getElem?_set_ne (Ne.symm e)]
def dnk (κ:List Int) (a:Nat):List Int:=κ.set a (kat κ a - 1)
def lowk (κ:List Int) (a b:Nat):List Int:=dnk (dnk κ a) b
def fack (κ:List Int) (a b:Nat):Int:=kat κ a*kat (dnk κ a) b
theorem QfD {κ:List Int} {a b:Nat}:(lowk κ a b).length=κ.length:=by unfold lowk dnk; rw [List.length_set,List.length_set]
def tmk (X:Nat→Nat→Rat) (κ μ:List Int) (a b:Nat):Rat:=if lowk κ a b=μ then X a b*((fack κ a b:Int):Rat) else 0
def ttm (n:Nat) (X:Nat→Nat→Rat) (κ μ:List Int):Rat:=La.sm n fun a=>La.sm n fun b=>tmk X κ μ a b
def Hm (n np:Nat) (e:Nat→Nat→Int) (q:Nat→Rat) (X:Nat→Nat→Rat):Prop :=
 (∀ i j,i < np→j < np→fsm np n e q (kyl n (e i))≠0→fsm np n e q (kyl n (e j))≠0→exs (e i) n=exs (e j) n) ∧
 ∀ μ:List Int,μ.length=8→La.sm np (fun j=>q j*ttm n X (kyl n (e j)) μ)=0
def dgs (κ:List Int):Nat→Int
 | 0=>0
 | k+1=>dgs κ k+kat κ k
theorem jo {n:Nat} {e:Nat→Int} (he:∀ k,k < n→0≤e k∧e k≤6):∀ k,dgs (kyl n e) k=(exs e (min k n):Int)
 | 0=>by rw [Nat.zero_min]; rfl
 | k+1=>by
  show dgs (kyl n e) k+kat (kyl n e) k=_
  rw [jo he k,YO]
  by_cases h:k < n
  ·have:=he k h
   rw [if_pos h,Nat.min_eq_left (by omega),Nat.min_eq_left (by omega)]
   show _=((exs e k+(e k).toNat:Nat):Int)
   omega
  ·rw [if_neg h,Nat.min_eq_right (by omega),Nat.min_eq_right (by omega),Int.add_zero]
def lsm {α:Type} (l:List α) (g:α→Rat):Rat:=l.foldr (fun x s=>g x+s) 0
theorem yH {α:Type} {l:List α} {x:α} {g:α→Rat}:lsm (l++[x]) g=lsm l g+g x:=by
 induction l with
 | nil=>show g x+0=0+g x; rw [Rat.add_zero,Rat.zero_add]
 | cons y l ih =>
  show g y+lsm (l++[x]) g=g y+lsm l g+g x
  rw [ih,Rat.add_assoc]
theorem QgD {α:Type} {l l':List α} {g:α→Rat} (h:l.Perm l'):lsm l g=lsm l' g:=by
 induction h with
 | nil=>rfl
 | cons x _ ih=>exact congrArg (g x + ·) ih
 | swap x y l=>show g y+(g x+_)=g x+(g y+_); rw [← Rat.add_assoc,← Rat.add_assoc,Rat.add_comm (g y)]
 | trans _ _ ih1 ih2=>rw [ih1,ih2]
theorem QdI {α β:Type} {l:List α} {k:α→β} {g:β→Rat}:lsm (l.map k) g=lsm l fun x=>g (k x):=by
 induction l with
 | nil=>rfl
 | cons x l ih=>exact congrArg (g (k x) + ·) ih
theorem jJ {α:Type} {l:List α} {g g':α→Rat} (h:∀ x ∈ l,g x=g' x):lsm l g=lsm l g':=by
 induction l with
 | nil=>rfl
 | cons x l ih =>
  have h1:=ih fun y hy=>h y (by simp [hy])
  show g x+lsm l g=g' x+lsm l g'
  rw [h x (by simp),h1]
def unk:Value→List Int
 | .agg c=>c.toList.map fun v=>match v with
  | .int _ z=>z
  | _=>0
 | _=>[]
theorem YR (κ:List Int):unk (kyv κ)=κ:=by
 show (κ.map (Value.int .i64)).map _=κ
 rw [List.map_map]
 exact List.map_id'' (fun _=>rfl) κ
theorem Qdu:∀ {l m:List Nat},l.Nodup→(∀ x ∈ l,x ∈ m)→l.length≤m.length
 | [],_,_,_=>Nat.zero_le _
 | x::l,m,h,hs=>by
  have h1:=hs x (by simp)
  obtain ⟨h2,h3⟩:=List.nodup_cons.1 h
  have h4:=Qdu (m:=m.erase x) h3 fun y hy=>by
   have hne:y≠x:=fun e=>h2 (e ▸ hy)
   exact (List.mem_erase_of_ne hne).2 (hs y (by simp [hy]))
  have h5:=List.length_erase_of_mem h1
  have h6:=List.length_pos_of_mem h1
  show l.length+1≤_
  omega
structure HSt (n:Nat) (X:Nat→Nat→Rat) (F:List Int→Rat) (es:Array MapEntry) (ck b8 b13 b61:Nat) (pv:Option Addr) (us:List Value) (U:UH) (seen:Array Nat) (es2:Array MapEntry) (ck2:Nat) (F2:List Int→Rat):Prop where
 m8:U b8=some (.map es ck)
 it:U b61=some (.mapIter (some b8) ck seen ck)
 m13:U b13=some (.map es2 ck2)
 c13:MapC (Arr 8) es2 ck2
 q13:MapQ 8 U es2 F2
 q8:MapQ 8 U es F
 row:RowAt U [] 4 pv (n*n) us
 el:El Vq U us (fl n X)
section
variable {n:Nat} {X:Nat→Nat→Rat} {F F2:List Int→Rat} {es es2:Array MapEntry} {ck ck2 b8 b13 b61:Nat} {pv:Option Addr} {us:List Value} {seen:Array Nat}
theorem jy {U U1:UH} {b:Nat} {o:Obj} (h:ULe U U1) (hb:U b=none):ULe U (U1.upd b o):=fun k x hk=>by
 unfold UH.upd
 by_cases e:k=b
 ·subst e; rw [hb] at hk; cases hk
 ·rw [if_neg e]; exact h k x hk
theorem qw {U:UH} {b k:Nat} {o:Obj} (h:k≠b):(U.upd b o) k=U k:=if_neg h
theorem VP {U:UH} {b:Nat} {o:Obj}:(U.upd b o) b=some o:=if_pos rfl
theorem HSt.up (h:HSt n X F es ck b8 b13 b61 pv us U seen es2 ck2 F2) (hU:ULe U U'):HSt n X F es ck b8 b13 b61 pv us U' seen es2 ck2 F2 :=
 ⟨hU _ _ h.m8,hU _ _ h.it,hU _ _ h.m13,h.c13,h.q13.ue hU.ue,h.q8.ue hU.ue,h.row.up hU (List.Sublist.refl _),h.el.up QF hU⟩
theorem HSt.next (h:HSt n X F es ck b8 b13 b61 pv us U seen es2 ck2 F2) (s:Array Nat):HSt n X F es ck b8 b13 b61 pv us (U.upd b61 (.mapIter (some b8) ck s ck)) s es2 ck2 F2:=by
 have hue:UE U (U.upd b61 (.mapIter (some b8) ck s ck)):=vK h.it (fun c t x h=>by cases h)
 have n1:b8≠b61:=fun e=>by have:=h.m8; rw [e,h.it] at this; cases this
 have n2:b13≠b61:=fun e=>by have:=h.m13; rw [e,h.it] at this; cases this
 exact ⟨by rw [qw n1]; exact h.m8,VP,by rw [qw n2]; exact h.m13,h.c13,h.q13.ue hue,h.q8.ue hue,h.row.ue hue,fun k x hx=>(h.el k x hx).ue hue⟩
theorem HSt.set (h:HSt n X F es ck b8 b13 b61 pv us U seen es2 ck2 F2) (hne:b8≠b13) {es3:Array MapEntry} {ck3:Nat} {κ:List Int} {x:QV} {q:Rat} (hC:MapC (Arr 8) es3 ck3) (hs:Stored es2 es3 (kyv κ) x.v) (hx:x.nrm U [] q) :
  HSt n X F es ck b8 b13 b61 pv us (U.upd b13 (.map es3 ck3)) seen es3 ck3 (fun μ=>if μ=κ then q else F2 μ):=by
 have hue:UE U (U.upd b13 (.map es3 ck3)):=vK h.m13 (fun c t x h=>by cases h)
 have n2:b61≠b13:=fun e=>by have:=h.it; rw [e,h.m13] at this; cases this
 exact ⟨by rw [qw hne]; exact h.m8,by rw [qw n2]; exact h.it,VP,hC,(h.q13.ue hue).set hs ⟨x,rfl,hx.ue hue⟩,h.q8.ue hue,h.row.ue hue,fun k x hx=>(h.el k x hx).ue hue⟩
end
def DSt (F:List Int→Rat) (vs:List MapEntry) (dg:Int):Prop :=
 (dg = -1∧∀ x ∈ vs,F (unk x.key)=0)∨(0≤dg∧(∃ x ∈ vs,F (unk x.key)≠0∧dgs (unk x.key) 8=dg)∧∀ x ∈ vs,F (unk x.key)≠0→dgs (unk x.key) 8=dg)
theorem DSt.skip {F:List Int→Rat} {ws:List MapEntry} {dg:Int} {x:MapEntry} (h:DSt F ws dg) (hx:F (unk x.key)=0):DSt F (ws++[x]) dg:=by
 rcases h with ⟨h1,h2⟩ | ⟨h1,⟨y,h2,h3⟩,h4⟩
 ·refine .inl ⟨h1,fun z hz=>?_⟩
  rcases List.mem_append.1 hz with hz | hz
  ·exact h2 z hz
  ·rw [List.mem_singleton] at hz; rw [hz]; exact hx
 ·refine .inr ⟨h1,⟨y,List.mem_append_left _ h2,h3⟩,fun z hz hne=>?_⟩
  rcases List.mem_append.1 hz with hz | hz
  ·exact h4 z hz hne
  ·rw [List.mem_singleton] at hz; rw [hz] at hne; exact absurd hx hne
theorem DSt.take {F:List Int→Rat} {ws:List MapEntry} {dg d:Int} {x:MapEntry} (h:DSt F ws dg) (hx:F (unk x.key)≠0) (hd:dgs (unk x.key) 8=d) (h0:0≤d) (he:¬ (0≤dg∧d≠dg)):DSt F (ws++[x]) d:=by
 refine .inr ⟨h0,⟨x,List.mem_append_right _ (List.mem_singleton.2 rfl),hx,hd⟩,fun z hz hne=>?_⟩
 rcases List.mem_append.1 hz with hz | hz
 ·rcases h with ⟨h1,h2⟩ | ⟨h1,-,h4⟩
  ·exact absurd (h2 z hz) hne
  ·rw [h4 z hz hne]; omega
 ·rw [List.mem_singleton] at hz; rw [hz]; exact hd
theorem QfX {κ:List Int} {a:Nat} (h:∀ a,0≤kat κ a∧kat κ a≤6) (ha:a < κ.length) (b:Nat) : -1≤kat (dnk κ a) b∧kat (dnk κ a) b≤6:=by
 have h1:=h a
 have h2:=h b
 unfold dnk
 rw [Qdi ha]
 split<;>omega
theorem QhO {κ:List Int} {a:Nat} (h:∀ a,0≤kat κ a∧kat κ a≤6) (ha:a < κ.length) (b:Nat) : -36≤kat κ a*kat (dnk κ a) b∧kat κ a*kat (dnk κ a) b≤36:=by
 have h1:=h a
 have h2:=QfX h ha b
 have h3:(kat κ a*kat (dnk κ a) b).natAbs≤6*6:=by
  rw [Int.natAbs_mul]
  exact Nat.mul_le_mul (by omega) (by omega)
 omega
theorem QcF {κ:List Int} (h:∀ a,0≤kat κ a∧kat κ a≤6):∀ k:Nat,0≤dgs κ k∧dgs κ k≤6*(k:Int)
 | 0=>⟨Int.le_refl 0,by show (0:Int)≤6*((0:Nat):Int); omega⟩
 | k+1=>by
  have h1:=QcF h k
  have h2:=h k
  show 0≤dgs κ k+kat κ k∧dgs κ k+kat κ k≤_
  omega
theorem Qje {n:Nat} {e:Nat→Int} (he:∀ k,k < n→0≤e k∧e k≤6) (a:Nat):0≤kat (kyl n e) a∧kat (kyl n e) a≤6:=by
 rw [YO]
 split
 ·rename_i h; exact he a h
 ·decide
theorem jP {α β:Type} {f:α→β} {l:List α} (h:(l.map f).Nodup):l.Nodup :=
 (List.pairwise_map.1 h).imp fun h1 h2=>h1 (by rw [h2])
theorem Qhu {α:Type} {l:List α} {g g':α→Rat}:lsm l (fun x=>g x+g' x)=lsm l g+lsm l g':=by
 induction l with
 | nil=>exact (Rat.add_zero 0).symm
 | cons x l ih =>
  show g x+g' x+lsm l (fun x=>g x+g' x)=g x+lsm l g+(g' x+lsm l g')
  rw [ih]
  grind
theorem QfC {l:List (List Int)} {κ:List Int} {g:List Int→Rat} (h:κ ∉ l):lsm l (fun μ=>if κ=μ then g μ else 0)=0:=by
 induction l with
 | nil=>rfl
 | cons x l ih =>
  show (if κ=x then g x else 0)+lsm l _=0
  rw [ih fun hm=>h (by simp [hm]),if_neg fun e=>h (by simp [e]),Rat.add_zero]
theorem Qhq {l:List (List Int)} {κ:List Int} {g:List Int→Rat} (hnd:l.Nodup) (h:κ ∈ l):lsm l (fun μ=>if κ=μ then g μ else 0)=g κ:=by
 induction l with
 | nil=>cases h
 | cons x l ih =>
  obtain ⟨h1,h2⟩:=List.nodup_cons.1 hnd
  show (if κ=x then g x else 0)+lsm l _=g κ
  rcases List.mem_cons.1 h with rfl | h
  ·rw [if_pos rfl,QfC h1,Rat.add_zero]
  ·rw [if_neg fun e1=>h1 (by rw [← e1]; exact h),ih h2 h,Rat.zero_add]
theorem yT {n:Nat} {e:Nat→Nat→Int} {q:Nat→Rat} {ks:List (List Int)} (hnd:ks.Nodup) (t:List Int→Rat):∀ {m:Nat},(∀ j,j < m→kyl n (e j) ∈ ks)→lsm ks (fun κ=>fsm m n e q κ*t κ)=La.sm m fun j=>q j*t (kyl n (e j))
 | 0,_=>by
  have h1:lsm ks (fun κ=>fsm 0 n e q κ*t κ)=lsm ks (fun _=>0):=jJ fun κ _=>Rat.zero_mul _
  rw [h1]
  have h2:∀ l:List (List Int),lsm l (fun _=>0)=0:=fun l=>by
   induction l with
   | nil=>rfl
   | cons x l ih=>exact (Rat.zero_add _).trans ih
  exact h2 ks
 | m+1,h=>by
  have ih:=yT (q:=q) hnd t (m:=m) fun j hj=>h j (by omega)
  have h1:lsm ks (fun κ=>fsm (m+1) n e q κ*t κ)=lsm ks (fun κ=>fsm m n e q κ*t κ+if kyl n (e m)=κ then q m*t κ else 0):=jJ fun κ _=>by
   show (fsm m n e q κ+(if kyl n (e m)=κ then q m else 0))*t κ=_
   rw [Rat.add_mul]
   split
   ·rfl
   ·rw [Rat.zero_mul]
  rw [h1,Qhu,ih,Qhq (g:=fun κ=>q m*t κ) hnd (h m (by omega))]
  rfl
theorem QgS {n np:Nat} {e:Nat→Nat→Int} {q:Nat→Rat} {es:Array MapEntry} {ck:Nat} {ws:List MapEntry} {t:List Int→Rat} (hC:MapC (Arr 8) es ck) (hk1:∀ x ∈ es.toList,∃ j,j < np∧x.key=kyv (kyl n (e j))) (hk2:∀ j,j < np→∃ x ∈ es.toList,x.key=kyv (kyl n (e j)))
  (hnd:(ws.map (fun y=>y.born)).Nodup) (hwe:∀ y ∈ ws,y ∈ es.toList) (hew:∀ y ∈ es.toList,y ∈ ws):lsm ws (fun y=>fsm np n e q (unk y.key)*t (unk y.key))=La.sm np fun j=>q j*t (kyl n (e j)):=by
 have h1:ws.Perm es.toList:=(List.perm_ext_iff_of_nodup (jP hnd) (jP hC.dist)).2 fun y=>⟨hwe y,hew y⟩
 have h2:(es.toList.map fun y=>unk y.key).Nodup:=by
  refine jP (f:=kyv) ?_
  rw [List.map_map]
  have h3:es.toList.map (kyv ∘ fun y=>unk y.key)=es.toList.map (·.key):=List.map_congr_left fun y hy=>by
   obtain ⟨j,-,hj⟩:=hk1 y hy
   show kyv (unk y.key)=y.key
   rw [hj,YR]
  rw [h3]; exact hC.dist
 rw [QgD h1,← QdI (l:=es.toList) (k:=fun y=>unk y.key) (g:=fun κ=>fsm np n e q κ*t κ)]
 refine yT h2 t fun j hj=>?_
 obtain ⟨x,hx,hk⟩:=hk2 j hj
 exact List.mem_map.2 ⟨x,hx,by rw [hk,YR]⟩
end Go.Proofs.YthnnlgjlhnmhnaaGreat
