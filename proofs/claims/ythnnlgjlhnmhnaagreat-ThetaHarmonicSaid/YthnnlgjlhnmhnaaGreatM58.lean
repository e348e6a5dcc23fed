/- Texts of this seat's own, merged: each begins with its own remark. -/
import Derived.Test.YthnnlgjlhnmhnaaGreatM19
import Derived.Laws.CopyRow
import Derived.Test.YthnnlgjlhnmhnaaGreatM56
import Derived.Test.YthnnlgjlhnmhnaaGreatM53
import Derived.Test.YthnnlgjlhnmhnaaGreatM15
import Derived.Test.YthnnlgjlhnmhnaaGreatHl
import Derived.Test.YthnnlgjlhnmhnaaGreatM26
/- The builtin copy into a part of an own row of elements of one cell. Program in general; no condition. -/
namespace Go.Hp
variable {P:Program} {T:TT} {K:Kont} {N:Nat} {G:World} {E:Env} {U:UH} {M:MH} {L:List Oper} {l:List Ent} {f:Bool} {i:Nat} {o:Oper}
end Go.Hp

/- Polynomials of layer 36: their values; the reference's at and form. -/
namespace Go.Hp
theorem Qau {P:Program} {T:TT} {N:Nat} {G:World} {U:UH} {M:MH} {E:Env} {o:Oper} {s n k j t:Nat} {x:Operand} {a:Addr} {p:Option Addr} {vs cs:List Value} {v:Value} {ti:TI} {fs:List (Nat × Nat)} (hS:Sym P T) (ho:o.op = .load t x) (hx:ev E x=some (.pointer (some a))) (ha:a=elt p (k*s+j)) (hT:lkT T t=some ti) (hk':ti.k = .struct fs) (hs:ti.size=cs.length)
  (h:RowAt U M s p n vs) (hk:vs[k]?=some v) (hj:(v.cells.toList.drop j).take cs.length=cs):Yl P N G o E U M (.agg cs.toArray):=by
 subst ha
 refine JJ ho hx fun w hw=>JF (hS.at hT) hk' hs.symm fun i u hu=>?_
 rw [QX,Nat.add_assoc]
 refine (h.get _ _ hk).2 (j+i) u ?_ G w hw
 have hi:i < cs.length:=(List.getElem?_eq_some_iff.1 hu).1
 rw [← hj,List.getElem?_take_of_lt hi,List.getElem?_drop] at hu
 exact hu
end Go.Hp
namespace Go.Proofs.YthnnlgjlhnmhnaaGreat
open Go.Hp
variable {G:World} {U U':UH} {M M':MH}
def Mon (b:Nat) (U:UH) (M:MH) (v:Value) (ne:Nat) (e:Nat→Int) (q:Rat):Prop :=
 ∃ (pe:Option Addr) (ce:Nat) (xs:List Value) (x:QV),v = .agg #[.slice pe ne ce,.bool x.num.neg,.slice x.num.p x.num.n x.num.c,.bool x.den.neg,.slice x.den.p x.den.n x.den.c]∧ne≤ce∧RowAt U M 1 pe ne xs∧El Vz U xs e∧x.rep U M q∧x.le b
theorem Mon.up {b ne:Nat} {v:Value} {e:Nat→Int} {q:Rat} (h:Mon b U M v ne e q) (hU:ULe U U') (hM:M.Sublist M'):Mon b U' M' v ne e q:=by
 obtain ⟨pe,ce,xs,x,h1,h2,h3,h4,h5,h6⟩:=h
 exact ⟨pe,ce,xs,x,h1,h2,h3.up hU hM,h4,h5.up hU hM,h6⟩
def Pol (b:Nat) (U:UH) (M:MH) (v:Value) (np:Nat) (ne:Nat→Nat) (e:Nat→Nat→Int) (q:Nat→Rat):Prop :=
 ∃ (p:Option Addr) (c:Nat) (ms:List Value),v = .slice p np c∧np≤c∧RowAt U M 5 p np ms∧∀ i u,ms[i]?=some u→Mon b U M u (ne i) (e i) (q i)
theorem Pol.up {b np:Nat} {v:Value} {ne:Nat→Nat} {e:Nat→Nat→Int} {q:Nat→Rat} (h:Pol b U M v np ne e q) (hU:ULe U U') (hM:M.Sublist M'):Pol b U' M' v np ne e q:=by
 obtain ⟨p,c,ms,h1,h2,h3,h4⟩:=h
 exact ⟨p,c,ms,h1,h2,h3.up hU hM,fun i u hi=>(h4 i u hi).up hU hM⟩
def pwr (r:Rat):Nat→Rat
 | 0=>1
 | j+1=>pwr r j*r
def mpx (e:Nat→Int) (x:Nat→Int):Nat→Rat
 | 0=>1
 | k+1=>mpx e x k*pwr ((x k:Int):Rat) (e k).toNat
def pex (np n:Nat) (e:Nat→Nat→Int) (q:Nat→Rat) (x:Nat→Int):Rat:=La.sm np fun i=>q i*mpx (e i) x n
def exs (e:Nat→Int):Nat→Nat
 | 0=>0
 | k+1=>exs e k+(e k).toNat
def Fit (np n:Nat) (ne:Nat→Nat) (e:Nat→Nat→Int):Prop:=np≤60∧∀ i,i < np→ne i=n∧∀ k,k < n→0≤e i k∧e i k≤6
theorem jc {e:Nat→Int}:∀ {k:Nat},(∀ t,t < k→0≤e t∧e t≤6)→exs e k≤6*k
 | 0,_=>Nat.le_refl 0
 | k+1,h=>by
  have h1:=jc (k:=k) fun t ht=>h t (by omega)
  have h2:=h k (by omega)
  show exs e k+(e k).toNat≤_
  omega
theorem Qda {np n b N c:Nat} {p:Option Addr} {vp:Value} {ne:Nat→Nat} {e:Nat→Nat→Int} {q:Nat→Rat} (hp:Pol b U M vp np ne e q) (hf:Fit np n ne e) (hn:n≤8) :
  Ct Tryz.prog 25 [.agg #[.int .i64 (n:Int),.slice p N c],vp] G U M fun v U' D=>v = .int .i64 0∧U=U'∧D=[]:=by
 obtain ⟨pp,cp,ms,rfl,hcp,rm,em⟩:=hp
 obtain ⟨h60,hfi⟩:=hf
 refine Qh Tryz.func25 rfl rfl rfl rfl ?_
 repeat (first|refine Qc ?_|refine Qa fun _=>?_|refine w_al fun _=>?_)
 rename_i b2
 refine Qi rfl (fun h=>absurd h (by omega)) (fun _=>?_)
 try refine Qb ?_
 try refine Qu (M':=(b2,.var (.agg #[.int .i64 (n:Int),.slice p N c]),24)::M) (ULe.refl _) sbk ?_
 refine Ql (fun z E U' M'=>∃ (i:Nat),i≤np∧U=U'∧E=[(5,.int .i64 (i:Int)),(2,.pointer (some ⟨b2,0,none⟩)),(1,.slice pp np cp)]∧ULe U U'∧M'=(b2,.var (.agg #[.int .i64 (n:Int),.slice p N c]),24)::M∧z=np - i) (n0:=np - 0) (E0:=[(5,.int .i64 ((0:Nat):Int)),(2,.pointer (some ⟨b2,0,none⟩)),(1,.slice pp np cp)]) ⟨rfl,rfl,rfl,trivial⟩ ⟨0,by omega,rfl,rfl,uc,rfl,rfl⟩ ?_
 rintro z E U1 M' ⟨i,hi,rfl,rfl,hU1,rfl,rfl⟩
 try refine Qb ?_
 refine Qi rfl (fun h=>?_) (fun h=>?_)
 ·have hin:i < np:=by omega
  obtain ⟨hne,hex⟩:=hfi i hin
  obtain ⟨v1,hv1⟩:=rm.at hin
  obtain ⟨pe,ce,xs,x,rfl,hce,rx,ex,-⟩:=em _ _ hv1
  rw [hne] at rx hce hv1
  try refine Qb ?_
  refine Qx [] [0,1,2,3,4,5,6,7,8] sym (by kernel_rfl) ?_
  try refine Qb ?_
  refine QB (j:=i) hin (rm.get _ _ hv1).1 ?_
  try refine Qb ?_
  refine sl_y (Jc (j:=0) (u := .slice pe n ce) sym rfl rfl (by rw [QX]) rfl rfl (rm.up uc sb) hv1 rfl) rfl rfl rfl rfl ?_
  try refine Qb ?_
  refine QK rfl (fun h=>absurd rfl h) (fun _=>?_)
  try refine Qb ?_
  try refine Qu (M':=(b2,.var (.agg #[.int .i64 (n:Int),.slice p N c]),24)::M) (ULe.refl _) sbk ?_
  refine Ql (fun z E U' M'=>∃ (k:Nat),k≤n∧U=U'∧E=[(6,.int .i64 (k:Int)),(5,.int .i64 (i:Int)),(2,.pointer (some ⟨b2,0,none⟩)),(1,.slice pp np cp)]∧ULe U U'∧M'=(b2,.var (.agg #[.int .i64 (n:Int),.slice p N c]),24)::M∧z=n - k) (n0:=n - 0) (E0:=[(6,.int .i64 ((0:Nat):Int)),(5,.int .i64 (i:Int)),(2,.pointer (some ⟨b2,0,none⟩)),(1,.slice pp np cp)]) ⟨rfl,rfl,rfl,rfl,trivial⟩ ⟨0,by omega,rfl,rfl,uc,rfl,rfl⟩ ?_
  rintro z E U2 M' ⟨k,hk,rfl,rfl,hU2,rfl,rfl⟩
  try refine Qb ?_
  refine Qi rfl (fun h2=>?_) (fun h2=>?_)
  ·have hkn:k < n:=by omega
   have hek:=hex k hkn
   obtain ⟨w1,hw1⟩:=rx.at hkn
   obtain ⟨hv,hz⟩:=ex _ _ hw1
   subst hv
   try refine Qb ?_
   refine QB (j:=i) hin (rm.get _ _ hv1).1 ?_
   try refine Qb ?_
   refine sl_y (Jc (j:=0) (u := .slice pe n ce) sym rfl rfl (by rw [QX]) rfl rfl (rm.up uc sb) hv1 rfl) rfl rfl rfl rfl ?_
   try refine Qb ?_
   refine sl_y (Qf sym rfl rfl rfl rfl rfl rfl ((rx.up uc sb).lt hw1) ((rx.up uc sb).get _ _ hw1).1) rfl rfl rfl rfl ?_; refine sl_y (Qk sym rfl rfl rfl rfl (rx.up uc sb) hw1 rfl) rfl rfl rfl rfl ?_
   try refine Qb ?_
   refine Qw rfl rfl (fun h=>absurd h (by omega)) (fun _=>?_)
   try refine Qb ?_
   refine QB (j:=i) hin (rm.get _ _ hv1).1 ?_
   try refine Qb ?_
   refine sl_y (Jc (j:=0) (u := .slice pe n ce) sym rfl rfl (by rw [QX]) rfl rfl (rm.up uc sb) hv1 rfl) rfl rfl rfl rfl ?_
   try refine Qb ?_
   refine sl_y (Qf sym rfl rfl rfl rfl rfl rfl ((rx.up uc sb).lt hw1) ((rx.up uc sb).get _ _ hw1).1) rfl rfl rfl rfl ?_; refine sl_y (Qk sym rfl rfl rfl rfl (rx.up uc sb) hw1 rfl) rfl rfl rfl rfl ?_
   try refine Qb ?_
   refine Qi rfl (fun h=>absurd h (by omega)) (fun _=>?_)
   try refine Qb ?_
   exact Qg (E':=[(6,.int .i64 ((k:Int)+1)),(5,.int .i64 (i:Int)),(2,.pointer (some ⟨b2,0,none⟩)),(1,.slice pp np cp)]) (m:=n - (k+1)) ⟨rfl,rfl,rfl,rfl,trivial⟩ (by omega) ⟨k+1,by omega,rfl,rfl,uc,rfl,rfl⟩
  ·try refine Qb ?_
   exact Qg (E':=[(5,.int .i64 ((i:Int)+1)),(2,.pointer (some ⟨b2,0,none⟩)),(1,.slice pp np cp)]) (m:=np - (i+1)) ⟨rfl,rfl,rfl,trivial⟩ (by omega) ⟨i+1,by omega,rfl,rfl,uc,rfl,rfl⟩
 ·try refine Qb ?_
  exact Qe [] sym rfl (.cons (.tmp rfl) .nil) uc sb (.inl rfl) ⟨rfl,rfl,rfl⟩
set_option maxHeartbeats 4000000 in
theorem QfI {np n b cx:Nat} {px:Option Addr} {xs:List Value} {vp:Value} {ne:Nat→Nat} {e:Nat→Nat→Int} {q:Nat→Rat} {x:Nat→Int} (hp:Pol b U M vp np ne e q) (hf:Fit np n ne e) (rx:RowAt U M 1 px n xs) (ex:El Vz U xs x) (hx:∀ i,i < n → -1048576≤x i∧x i≤1048576) (hn:n≤8) (hb:1≤b) (hb2:b≤100000) :
  Ct Tryz.prog 38 [vp,.slice px n cx] G U M fun v U' D=>∃ r:QV,v=r.v∧r.nrm U' [] (pex np n e q x)∧D=[]:=by
 obtain ⟨pp,cp,ms,rfl,hcp,rm,em⟩:=hp
 obtain ⟨h60,hfi⟩:=hf
 refine Qh Tryz.func38 rfl rfl rfl rfl ?_
 repeat (first|refine Qc ?_|refine Qa fun _=>?_|refine w_al fun _=>?_)
 rename_i b4
 refine Qd rfl rfl rfl rfl rfl rfl (fun _=>(vO (z:=0) (by decide) (by decide)).settle) ?_
 rintro v Uh10 D hU ⟨rfl,_,_,⟨xh10,rfl,h10,-⟩,-,-,hs⟩
 replace h10:=h10.sett hs
 clear hs
 repeat (first|refine Qc ?_|refine Qa fun _=>?_|refine w_al fun _=>?_)
 rename_i b5
 try refine Qu (M':=(b5,.var xh10.v,TR)::(b4,.var zeroQV.v,TR)::M) (ULe.refl _) sbk ?_
 refine Ql (fun z E U' M'=>∃ (i:Nat) (xw:QV),i≤np∧xw.nrm U' [] (La.sm i fun i=>q i*mpx (e i) x n)∧Szq (La.sm i fun i=>q i*mpx (e i) x n) ((b+51)*i+1)∧E=[(6,.int .i64 (i:Int)),(5,.pointer (some ⟨b5,0,none⟩)),(4,.pointer (some ⟨b4,0,none⟩)),(1,.slice px n cx),(0,.slice pp np cp)]∧ULe Uh10 U'∧M'=(b5,.var xw.v,TR)::(b4,.var zeroQV.v,TR)::M∧z=np - i) (n0:=np - 0) (E0:=[(6,.int .i64 ((0:Nat):Int)),(5,.pointer (some ⟨b5,0,none⟩)),(4,.pointer (some ⟨b4,0,none⟩)),(1,.slice px n cx),(0,.slice pp np cp)]) ⟨rfl,rfl,rfl,rfl,rfl,trivial⟩ ⟨0,xh10,by omega,h10,Yn.mono (by omega),rfl,uc,rfl,rfl⟩ ?_
 rintro z E U2 M' ⟨i,xw,hi,hxw,hsw,rfl,hU2,rfl,rfl⟩
 try refine Qb ?_
 refine Qi rfl (fun h=>?_) (fun h=>?_)
 ·have hin:i < np:=by omega
  obtain ⟨hne,hex⟩:=hfi i hin
  obtain ⟨v1,hv1⟩:=rm.at hin
  obtain ⟨pe,ce,es,x0,rfl,hce,re,ee,hx0,hxn⟩:=em _ _ hv1
  rw [hne] at re hce hv1
  have s0:=hx0.sz hxn hb
  try refine Qb ?_
  refine QB (j:=i) hin (rm.get _ _ hv1).1 ?_
  try refine Qb ?_
  refine sl_y (Qau (k:=i) (j:=1) (cs:=x0.v.cells.toList) sym rfl rfl (by rw [QX]) rfl rfl rfl (rm.up uc sb) hv1 rfl) rfl rfl rfl rfl ?_
  repeat (first|refine Qc ?_|refine Qa fun _=>?_|refine w_al fun _=>?_)
  rename_i b7
  have hq0:x0.rep U2 M (q i*mpx (e i) x 0):=by
   rw [show q i*mpx (e i) x 0=q i from Rat.mul_one _]
   exact hx0.up uc (List.Sublist.refl _)
  try refine Qu (M':=(b7,.var x0.v,TR)::(b5,.var xw.v,TR)::(b4,.var zeroQV.v,TR)::M) (ULe.refl _) sbk ?_
  refine Ql (fun z E U' M'=>∃ (k:Nat) (tv:QV),k≤n∧tv.rep U' M (q i*mpx (e i) x k)∧tv.le (b+exs (e i) k)∧E=[(8,.int .i64 (k:Int)),(7,.pointer (some ⟨b7,0,none⟩)),(6,.int .i64 (i:Int)),(5,.pointer (some ⟨b5,0,none⟩)),(4,.pointer (some ⟨b4,0,none⟩)),(1,.slice px n cx),(0,.slice pp np cp)]∧ULe U2 U'∧M'=(b7,.var tv.v,TR)::(b5,.var xw.v,TR)::(b4,.var zeroQV.v,TR)::M∧z=n - k) (n0:=n - 0) (E0:=[(8,.int .i64 ((0:Nat):Int)),(7,.pointer (some ⟨b7,0,none⟩)),(6,.int .i64 (i:Int)),(5,.pointer (some ⟨b5,0,none⟩)),(4,.pointer (some ⟨b4,0,none⟩)),(1,.slice px n cx),(0,.slice pp np cp)]) ⟨rfl,rfl,rfl,rfl,rfl,rfl,rfl,trivial⟩ ⟨0,x0,by omega,hq0,⟨by have:=hxn.1; omega,by have:=hxn.2; omega⟩,rfl,uc,rfl,rfl⟩ ?_
  clear hq0
  rintro z E U3 M' ⟨k,tv,hk,htv,hln,rfl,hU3,rfl,rfl⟩
  try refine Qb ?_
  have hexl:=jc (e:=e i) (k:=k) fun t2 ht2=>hex t2 (by omega)
  refine Qi rfl (fun h2=>?_) (fun h2=>?_)
  ·have hkn:k < n:=by omega
   have hek:=hex k hkn
   have hxk:=hx k hkn
   obtain ⟨w1,hw1⟩:=re.at hkn
   obtain ⟨hv,hz⟩:=ee _ _ hw1
   subst hv
   obtain ⟨w2,hw2⟩:=rx.at hkn
   obtain ⟨hv,hz2⟩:=ex _ _ hw2
   subst hv
   obtain ⟨ek,hekd⟩:∃ ek:Nat,e i k=(ek:Int):=⟨(e i k).toNat,by omega⟩
   have hm1:mpx (e i) x (k+1)=mpx (e i) x k*pwr ((x k:Int):Rat) ek:=by
    show mpx (e i) x k*pwr _ (e i k).toNat=_
    rw [hekd]; rfl
   have hx1:exs (e i) (k+1)=exs (e i) k+ek:=by
    show exs (e i) k+(e i k).toNat=_
    rw [hekd]; rfl
   have htv0:tv.rep U3 M (q i*(mpx (e i) x k*pwr ((x k:Int):Rat) 0)):=by
    rw [show mpx (e i) x k*pwr ((x k:Int):Rat) 0=mpx (e i) x k from Rat.mul_one _]; exact htv
   rw [hekd] at hw1
   try refine Qb ?_
   try refine Qu (M':=(b7,.var tv.v,TR)::(b5,.var xw.v,TR)::(b4,.var zeroQV.v,TR)::M) (ULe.refl _) sbk ?_
   refine Ql (fun z E U' M'=>∃ (j:Nat) (tv:QV),j≤ek∧tv.rep U' M (q i*(mpx (e i) x k*pwr ((x k:Int):Rat) j))∧tv.le (b+exs (e i) k+j)∧E=[(9,.int .i64 (j:Int)),(8,.int .i64 (k:Int)),(7,.pointer (some ⟨b7,0,none⟩)),(6,.int .i64 (i:Int)),(5,.pointer (some ⟨b5,0,none⟩)),(4,.pointer (some ⟨b4,0,none⟩)),(1,.slice px n cx),(0,.slice pp np cp)]∧ULe U3 U'∧M'=(b7,.var tv.v,TR)::(b5,.var xw.v,TR)::(b4,.var zeroQV.v,TR)::M∧z=ek - j) (n0:=ek - 0) (E0:=[(9,.int .i64 ((0:Nat):Int)),(8,.int .i64 (k:Int)),(7,.pointer (some ⟨b7,0,none⟩)),(6,.int .i64 (i:Int)),(5,.pointer (some ⟨b5,0,none⟩)),(4,.pointer (some ⟨b4,0,none⟩)),(1,.slice px n cx),(0,.slice pp np cp)]) ⟨rfl,rfl,rfl,rfl,rfl,rfl,rfl,rfl,trivial⟩ ⟨0,tv,by omega,htv0,hln,rfl,uc,rfl,rfl⟩ ?_
   clear htv htv0 hln
   rintro z E U4 M' ⟨j,tv,hj,htv,hln,rfl,hU4,rfl,rfl⟩
   try refine Qb ?_
   try refine Qb ?_
   refine QB (j:=i) hin (rm.get _ _ hv1).1 ?_
   try refine Qb ?_
   refine sl_y (Jc (j:=0) (u := .slice pe n ce) sym rfl rfl (by rw [QX]) rfl rfl (rm.up uc sb) hv1 rfl) rfl rfl rfl rfl ?_
   try refine Qb ?_
   refine sl_y (Qf sym rfl rfl rfl rfl rfl rfl ((re.up uc sb).lt hw1) ((re.up uc sb).get _ _ hw1).1) rfl rfl rfl rfl ?_; refine sl_y (Qk sym rfl rfl rfl rfl (re.up uc sb) hw1 rfl) rfl rfl rfl rfl ?_
   try refine Qb ?_
   refine Qi rfl (fun h3=>?_) (fun h3=>?_)
   ·try refine Qb ?_
    refine Qx [6,7] [0,1,2,3,4,5,6,7] sym (by kernel_rfl) ?_
    try refine Qb ?_
    refine sl_y (Qf sym rfl rfl rfl rfl rfl rfl ((rx.up uc sb).lt hw2) ((rx.up uc sb).get _ _ hw2).1) rfl rfl rfl rfl ?_; refine sl_y (Qk sym rfl rfl rfl rfl (rx.up uc sb) hw2 rfl) rfl rfl rfl rfl ?_
    repeat (first|refine Qc ?_|refine Qa fun _=>?_|refine w_al fun _=>?_)
    have st:=htv.sz hln (by omega)
    refine Qd rfl rfl rfl rfl rfl rfl (fun _=>(vO (z:=x k) (by omega) (by omega)).settle) ?_
    rintro v Uh45 D hU ⟨rfl,_,_,⟨xh45,rfl,h45,-⟩,-,-,hs⟩
    replace h45:=h45.sett hs
    clear hs
    repeat (first|refine Qc ?_|refine Qa fun _=>?_|refine w_al fun _=>?_)
    have s45:Szq ((x k:Int):Rat) 1:=Jx (by unfold Sz; omega) (by decide)
    have hln':tv.le 34359738368:=⟨by have:=hln.1; omega,by have:=hln.2; omega⟩
    refine Qd rfl rfl rfl rfl rfl rfl (fun _=>jD (htv.up uc sb) hln' (h45.rep.up uc (List.nil_sublist _)) (h45.le s45 (by decide))) ?_
    rintro v Uh46 D hU ⟨xh46,rfl,h46,rfl⟩
    repeat (first|refine Qc ?_|refine Qa fun _=>?_|refine w_al fun _=>?_)
    have s46:=st.mul s45
    rw [show q i*(mpx (e i) x k*pwr ((x k:Int):Rat) j)*((x k:Int):Rat)=q i*(mpx (e i) x k*pwr ((x k:Int):Rat) (j+1)) by
     show _=q i*(mpx (e i) x k*(pwr ((x k:Int):Rat) j*((x k:Int):Rat)))
     rw [Rat.mul_assoc,Rat.mul_assoc]] at h46 s46
    exact Qg (E':=[(9,.int .i64 ((j:Int)+1)),(8,.int .i64 (k:Int)),(7,.pointer (some ⟨b7,0,none⟩)),(6,.int .i64 (i:Int)),(5,.pointer (some ⟨b5,0,none⟩)),(4,.pointer (some ⟨b4,0,none⟩)),(1,.slice px n cx),(0,.slice pp np cp)]) (m:=ek - (j+1)) ⟨rfl,rfl,rfl,rfl,rfl,rfl,rfl,rfl,trivial⟩ (by omega) ⟨j+1,xh46,by omega,h46.rep.up uc (List.nil_sublist _),h46.le s46 (by omega),rfl,uc,rfl,rfl⟩
   ·obtain rfl:ek=j:=by omega
    rw [← hm1] at htv
    rw [Nat.add_assoc,← hx1] at hln
    try refine Qb ?_
    exact Qg (E':=[(8,.int .i64 ((k:Int)+1)),(7,.pointer (some ⟨b7,0,none⟩)),(6,.int .i64 (i:Int)),(5,.pointer (some ⟨b5,0,none⟩)),(4,.pointer (some ⟨b4,0,none⟩)),(1,.slice px n cx),(0,.slice pp np cp)]) (m:=n - (k+1)) ⟨rfl,rfl,rfl,rfl,rfl,rfl,rfl,trivial⟩ (by omega) ⟨k+1,tv,by omega,htv,hln,rfl,uc,rfl,rfl⟩
  ·obtain rfl:n=k:=by omega
   try refine Qb ?_
   have st:=htv.sz (k:=b+50) ⟨by have:=hln.1; omega,by have:=hln.2; omega⟩ (by omega)
   refine Qd rfl rfl rfl rfl rfl rfl (fun _=>yP (hxw.rep.up uc (List.nil_sublist _)) (hxw.le hsw (by have:=Nat.mul_le_mul (show b+51≤100051 by omega) (show i≤60 by omega); omega)) (htv.up uc sb) ⟨by have:=hln.1; omega,by have:=hln.2; omega⟩) ?_
   rintro v Uh49 D hU ⟨xh49,rfl,h49,rfl⟩
   repeat (first|refine Qc ?_|refine Qa fun _=>?_|refine w_al fun _=>?_)
   have sa:=hsw.add st
   refine QU (M':=(b5,.var xh49.v,TR)::(b4,.var zeroQV.v,TR)::M) (ULe.refl _) sbk ?_
   exact Qg (E':=[(6,.int .i64 ((i:Int)+1)),(5,.pointer (some ⟨b5,0,none⟩)),(4,.pointer (some ⟨b4,0,none⟩)),(1,.slice px n cx),(0,.slice pp np cp)]) (m:=np - (i+1)) ⟨rfl,rfl,rfl,rfl,rfl,trivial⟩ (by omega) ⟨i+1,xh49,by omega,h49,sa.mono (by rw [Nat.mul_add]; omega),rfl,uc,rfl,rfl⟩
 ·obtain rfl:np=i:=by omega
  repeat (first|refine Qc ?_|refine Qa fun _=>?_|refine w_al fun _=>?_)
  exact Qe [] sym rfl (.cons (.cell 1 rfl rfl rfl) .nil) uc sb (.inl rfl) ⟨xw,rfl,hxw,rfl⟩
end Go.Proofs.YthnnlgjlhnmhnaaGreat

/- Walks of reference 33: zero, Result. -/
namespace Go.Proofs.YthnnlgjlhnmhnaaGreat
open Go.Hp
variable {G:World} {U U':UH} {M:MH}
theorem Qcu {x:QV} {q:Rat} (hx:x.rep U M q) (hn:x.le 137438953472) :
  Ct Tryz.prog 76 [x.v] G U M fun v U' D=>∃ b:Bool,v = .bool b∧(b=true↔q=0)∧ULe U U'∧D=[]:=by
 refine Qh Tryz.func76 rfl rfl rfl rfl ?_
 repeat (first|refine Qc ?_|refine Qa fun _=>?_|refine w_al fun _=>?_)
 rename_i b1
 refine Qd rfl rfl rfl rfl rfl rfl (fun _=>YF (hx.up uc sb) hn) ?_
 rintro v Uh4 D hU ⟨xh4,rfl,h4,rfl⟩
 repeat (first|refine Qc ?_|refine Qa fun _=>?_|refine w_al fun _=>?_)
 have hz:xh4.num.n=0↔q=0:=by
  constructor
  ·intro h
   have h1:=h4.1.rep.sz (k:=0) (by omega)
   have h2:q.num=0:=by unfold Sz at h1; omega
   exact Rat.num_eq_zero.1 h2
  ·intro h
   have h1:=h4.1.len_le (k:=0) (by rw [h]; decide)
   omega
 refine Qfh (r:=xh4.num.v) ?_
 refine Qfh (r := .slice xh4.num.p xh4.num.n xh4.num.c) ?_
 repeat (first|refine Qc ?_|refine Qa fun _=>?_|refine w_al fun _=>?_)
 refine Qe [] sym rfl (.cons (.tmp rfl) .nil) uc sb (.inl rfl) ⟨dec ((xh4.num.n:Int)=0),rfl,?_,uc,rfl⟩
 rw [Jj,decide_eq_true_iff,← hz]
 omega
theorem QaK {N b:Nat} {v:Value} {g:Nat→Rat} (h:Ls (Wq b) 4 N U M v g) (hb:b≤1000000) (hN:N≤1000) :
  Ct Tryz.prog 39 [.int .i64 0,v] G U M fun v U' D=>∃ s a,Skp g N s∧v = .tuple #[.agg #[.int .i64 (s:Int),a],.int .i64 0]∧Lo Vq TR 4 (N - s) U' D a (fun k=>g (s+k))∧ULe U U':=by
 obtain ⟨p,c,vs,rfl,hc,rx,ex⟩:=h
 refine Qh Tryz.func39 rfl rfl rfl rfl ?_
 repeat (first|refine Qc ?_|refine Qa fun _=>?_|refine w_al fun _=>?_)
 rename_i b4
 refine Qi rfl (fun h=>absurd h (by omega)) (fun _=>?_)
 repeat (first|refine Ji ?_|refine Qa fun _=>?_|refine w_al fun _=>?_)
 refine QE ?_
 repeat (first|refine Ji ?_|refine Qa fun _=>?_|refine w_al fun _=>?_)
 rw [Int.zero_add]
 refine Qo (fun E U' M'=>∃ (i:Nat),Skp g N i∧E=[(7,.int .i64 (i:Int)),(6,.int .i64 (N:Int)),(1,.slice p N c),(0,.int .i64 0),(5,.int .i64 0),(4,.pointer (some ⟨b4,0,none⟩))]∧ULe U U'∧M'=(b4,.var (.agg #[.int .i64 0,.slice none 0 0]),37)::M) ?_ ?_
 ·try refine Qb ?_
  try refine Qu (M':=(b4,.var (.agg #[.int .i64 0,.slice none 0 0]),37)::M) (ULe.refl _) sbk ?_
  refine Ql (fun z E U' M'=>∃ (i:Nat),i≤N∧(∀ a,a < i→g a=0)∧E=[(7,.int .i64 (i:Int)),(6,.int .i64 (N:Int)),(1,.slice p N c),(0,.int .i64 0),(5,.int .i64 0),(4,.pointer (some ⟨b4,0,none⟩))]∧ULe U U'∧M'=(b4,.var (.agg #[.int .i64 0,.slice none 0 0]),37)::M∧z=N - i) (n0:=N - 0) (E0:=[(7,.int .i64 ((0:Nat):Int)),(6,.int .i64 (N:Int)),(1,.slice p N c),(0,.int .i64 0),(5,.int .i64 0),(4,.pointer (some ⟨b4,0,none⟩))]) ⟨rfl,rfl,rfl,rfl,rfl,rfl,trivial⟩ ⟨0,by omega,(fun a h=>absurd h (Nat.not_lt_zero a)),rfl,uc,rfl,rfl⟩ ?_
  rintro z E U1 M' ⟨i,hi,hz,rfl,hU1,rfl,rfl⟩
  try refine Qb ?_
  refine Qw rfl rfl (fun h=>?_) (fun h=>?_)
  ·have hin:i < N:=by omega
   obtain ⟨v1,hv1⟩:=rx.at hin
   obtain ⟨x1,rfl,hx1,hn1⟩:=ex _ _ hv1
   try refine Qb ?_
   refine sl_y (Qf sym rfl rfl rfl rfl rfl rfl ((rx.up uc sb).lt hv1) ((rx.up uc sb).get _ _ hv1).1) rfl rfl rfl rfl ?_; refine sl_y (Qp sym rfl rfl rfl rfl rfl (rx.up uc sb) hv1) rfl rfl rfl rfl ?_
   try refine Qb ?_
   refine Qd rfl rfl rfl rfl rfl rfl (fun _=>Qcu (hx1.up uc (List.nil_sublist _)) ⟨by have:=hn1.1; omega,by have:=hn1.2; omega⟩) ?_
   rintro v2 U2 D2 hU2 ⟨bz,rfl,hbz,_,rfl⟩
   rw [List.nil_append]
   cases bz
   ·try refine Qb ?_
    exact Qn (E':=[(7,.int .i64 (i:Int)),(6,.int .i64 (N:Int)),(1,.slice p N c),(0,.int .i64 0),(5,.int .i64 0),(4,.pointer (some ⟨b4,0,none⟩))]) ⟨rfl,rfl,rfl,rfl,rfl,rfl,trivial⟩ ⟨i,⟨hi,hz,fun _ h3=>Bool.noConfusion (hbz.2 h3)⟩,rfl,uc,rfl⟩
   ·have h3:g i=0:=hbz.1 rfl
    try refine Qb ?_
    exact Qg (E':=[(7,.int .i64 ((i:Int)+1)),(6,.int .i64 (N:Int)),(1,.slice p N c),(0,.int .i64 0),(5,.int .i64 0),(4,.pointer (some ⟨b4,0,none⟩))]) (m:=N - (i+1)) ⟨rfl,rfl,rfl,rfl,rfl,rfl,trivial⟩ (by omega) ⟨i+1,by omega,(fun a ha=>by
     rcases Nat.lt_or_eq_of_le (Nat.le_of_lt_succ ha) with h5 | h5
     ·exact hz a h5
     ·rw [h5]; exact h3),rfl,uc,rfl,rfl⟩
  ·try refine Qb ?_
   exact Qn (E':=[(7,.int .i64 (i:Int)),(6,.int .i64 (N:Int)),(1,.slice p N c),(0,.int .i64 0),(5,.int .i64 0),(4,.pointer (some ⟨b4,0,none⟩))]) ⟨rfl,rfl,rfl,rfl,rfl,rfl,trivial⟩ ⟨i,⟨hi,hz,fun h3=>absurd h3 (by omega)⟩,rfl,uc,rfl⟩
 rintro E U1 M' ⟨i,hs,rfl,hU1,rfl⟩
 have hiN:=hs.1
 refine Qo (fun E U' M'=>True∧E=[(7,.int .i64 (i:Int)),(0,.int .i64 0),(1,.slice p N c),(5,.int .i64 0),(4,.pointer (some ⟨b4,0,none⟩))]∧ULe U U'∧M'=(b4,.var (.agg #[.int .i64 0,.slice none 0 0]),37)::M) ?_ ?_
 ·repeat (first|refine Qc ?_|refine Qa fun _=>?_|refine w_al fun _=>?_)
  refine Qi rfl (fun h=>?_) (fun h=>?_)
  ·try refine Qb ?_
   rw [show (N:Int) - (i:Int)=0 by omega]
   exact Qn (E':=[(7,.int .i64 (i:Int)),(0,.int .i64 0),(1,.slice p N c),(5,.int .i64 0),(4,.pointer (some ⟨b4,0,none⟩))]) ⟨rfl,rfl,rfl,rfl,rfl,trivial⟩ ⟨trivial,rfl,uc,rfl⟩
  ·try refine Qb ?_
   exact Qn (E':=[(7,.int .i64 (i:Int)),(0,.int .i64 0),(1,.slice p N c),(5,.int .i64 0),(4,.pointer (some ⟨b4,0,none⟩))]) ⟨rfl,rfl,rfl,rfl,rfl,trivial⟩ ⟨trivial,rfl,uc,rfl⟩
 rintro E U1 M' ⟨-,rfl,hU1,rfl⟩
 repeat (first|refine Qc ?_|refine Qa fun _=>?_|refine w_al fun _=>?_)
 refine Qi rfl (fun h=>absurd h (by omega)) (fun _=>?_)
 repeat (first|refine Qc ?_|refine Qa fun _=>?_|refine w_al fun _=>?_)
 rename_i b8
 rw [Int.zero_add]
 try refine Qu (M':=(b8,.var (.agg #[.int .i64 (i:Int),.slice none 0 0]),37)::(b4,.var (.agg #[.int .i64 0,.slice none 0 0]),37)::(([])++M)) (ULe.refl _) sbk ?_
 refine Ql (fun z E U' M'=>∃ (k:Nat) (Q:Option Addr) (C:Nat) (us:List Value) (D:MH),i+k≤N∧RowO TR 4 D Q k C us∧El Vq U' us (fun k=>g (i+k))∧E=[(9,.int .i64 ((i+k):Int)),(8,.pointer (some ⟨b8,0,none⟩)),(1,.slice p N c),(5,.int .i64 0),(4,.pointer (some ⟨b4,0,none⟩))]∧ULe U U'∧M'=(b8,.var (.agg #[.int .i64 (i:Int),.slice Q k C]),37)::(b4,.var (.agg #[.int .i64 0,.slice none 0 0]),37)::(D++M)∧z=N - (i+k)) (n0:=N - (i+0)) (E0:=[(9,.int .i64 ((i+0):Int)),(8,.pointer (some ⟨b8,0,none⟩)),(1,.slice p N c),(5,.int .i64 0),(4,.pointer (some ⟨b4,0,none⟩))]) ⟨rfl,rfl,rfl,rfl,rfl,trivial⟩ ⟨0,none,0,[],[],hiN,RowO.nil,El.nil,rfl,uc,rfl,rfl⟩ ?_
 rintro z E U2 M' ⟨k,Q,C,us,D,hk,hrow,hel,rfl,hU2,rfl,rfl⟩
 try refine Qb ?_
 refine Qi rfl (fun h=>?_) (fun h=>?_)
 ·have hkn:i+k < N:=by omega
  obtain ⟨v1,hv1⟩:=rx.at hkn
  obtain ⟨x1,rfl,hx1,hn1⟩:=ex _ _ hv1
  try refine Qb ?_
  refine Qx [8,9,10] [0,1,2,3,4,5,6,7,8,9,10] sym (by kernel_rfl) ?_
  try refine Qb ?_
  refine sl_y (Qf sym rfl rfl rfl rfl rfl ( (show _=((i+k:Nat):Int) by omega)) ((rx.up uc sb).lt hv1) ((rx.up uc sb).get _ _ hv1).1) rfl rfl rfl rfl ?_; refine sl_y (Qp sym rfl rfl rfl rfl rfl (rx.up uc sb) hv1) rfl rfl rfl rfl ?_
  try refine Qb ?_
  refine Qd rfl rfl rfl rfl rfl rfl (fun _=>YF (hx1.up uc (List.nil_sublist _)) ⟨by have:=hn1.1; omega,by have:=hn1.2; omega⟩) ?_
  rintro v Uh4 D hU ⟨xh4,rfl,h4,rfl⟩
  repeat (first|refine Qc ?_|refine Qa fun _=>?_|refine w_al fun _=>?_)
  refine Ye hrow (X:=(b8,.var (.agg #[.int .i64 (i:Int),.slice Q k C]),37)::(b4,.var (.agg #[.int .i64 0,.slice none 0 0]),37)::M) pgs (fun b P2 C2 D2 hr2=>?_)
  refine Qj (M':=(b8,.var (.agg #[.int .i64 (i:Int),.slice Q k C]),37)::(b4,.var (.agg #[.int .i64 0,.slice none 0 0]),37)::(D2++M)) ?_ pgs
  try refine Qb ?_
  refine Vx 0 sym rfl rfl rfl rfl rfl rfl rfl rfl rfl rfl rfl ?_
  try refine Qb ?_
  exact Qg (E':=[(9,.int .i64 ((i+(k+1)):Int)),(8,.pointer (some ⟨b8,0,none⟩)),(1,.slice p N c),(5,.int .i64 0),(4,.pointer (some ⟨b4,0,none⟩))]) (m:=N - (i+(k+1))) ⟨rfl,rfl,rfl,rfl,rfl,trivial⟩ (by omega) ⟨k+1,P2,C2,_,D2,by omega,hr2,JV hrow.len.1 (hel.up QF uc) ⟨xh4,rfl,h4⟩,rfl,uc,rfl,rfl⟩
 ·obtain hK:N - i=k:=by omega
  repeat (first|refine Qc ?_|refine Qa fun _=>?_|refine w_al fun _=>?_)
  exact Qe D sym rfl (.cons (.cell 1 rfl rfl rfl) (.cons (.tmp rfl) .nil)) uc sb (.inl rfl) ⟨i,_,hs,rfl,by rw [hK]; exact ⟨Q,C,us,rfl,hrow,hel⟩,uc⟩
theorem Qbj {N b:Nat} {v:Value} {g:Nat→Rat} (h:Ls (Wq b) 4 N U M v g) (hb:b≤1000000) (hN:N≤1000) :
  Ct Tryz.prog 39 [.int .i64 0,v] G U M fun v U' D=>∃ s r,Skp g N s∧v = .tuple #[r,.int .i64 0]∧Vser Vq U' [] r (s:Int) (N - s) (fun k=>g (s+k))∧D=[] :=
 (QaK h hb hN).settle.mono fun _ _ _ _ ⟨h1,_,_,⟨s,a,h2,h3,h4,_⟩,_,h5,h6⟩=>⟨s,_,h2,h3,⟨a,rfl,h4.sett QF h5 h6⟩,h1⟩
end Go.Proofs.YthnnlgjlhnmhnaaGreat

/- Walks of layer 36's reference: Weighted, Expansion. -/
namespace Go.Proofs.YthnnlgjlhnmhnaaGreat
open Go.Hp
variable {G:World} {U U':UH} {M:MH}
def ww (n:Nat) (f:Nat→Int) (b:Nat→Nat) (w:Nat→Rat):Nat→Nat→Rat
 | 0,_=>0
 | k+1,q=>if vn n f b k=q then ww n f b w k q+w k else ww n f b w k q
def WgtP (n:Nat) (f:Nat→Int) (P:Nat) (pw:(Nat→Int)→Rat) (U':UH) (v:Value):Prop :=
 ∃ X,Inv n f X∧(Bx.pre (bd X (P - 1)) n≤1048576→∃ s r,Skp (ww n f (bd X (P - 1)) (fun k=>pw (Bx.vec (bd X (P - 1)) n k)) (Bx.pre (bd X (P - 1)) n)) P s∧v = .tuple #[r,.int .i64 0]∧Vser Vq U' [] r (s:Int) (P - s) (fun k=>ww n f (bd X (P - 1)) (fun k=>pw (Bx.vec (bd X (P - 1)) n k)) (Bx.pre (bd X (P - 1)) n) (s+k))) ∧
  (1048576 < Bx.pre (bd X (P - 1)) n→v = .tuple #[.agg #[.int .i64 0,.slice none 0 0],.int .i64 7])
def WSz (n:Nat) (f:Nat→Int) (P B:Nat) (pw:(Nat→Int)→Rat):Prop :=
 ∀ X,Inv n f X→Bx.pre (bd X (P - 1)) n≤1048576→∀ k,k < Bx.pre (bd X (P - 1)) n→Szq (pw (Bx.vec (bd X (P - 1)) n k)) B∧∀ q,Szq (ww n f (bd X (P - 1)) (fun k=>pw (Bx.vec (bd X (P - 1)) n k)) (k+1) q) B
theorem Qey {n P:Nat} {f:Nat→Int} {pw:(Nat→Int)→Rat} {v:Value} (h:WgtP n f P pw U v):∃ (F:Int) (pk:Option Addr) (k ck:Nat) (e:Int),v = .tuple #[.agg #[.int .i64 F,.slice pk k ck],.int .i64 e]:=by
 obtain ⟨X,-,h1,h2⟩:=h
 rcases Nat.lt_or_ge 1048576 (Bx.pre (bd X (P - 1)) n) with h3 | h3
 ·exact ⟨_,_,_,_,_,h2 h3⟩
 ·obtain ⟨s,r,-,h4,_,rfl,p,c,vs,rfl,-⟩:=h1 h3
  exact ⟨_,_,_,_,_,h4⟩
theorem yN {n c np b B:Nat} {prec:Int} {p:Option Addr} {vs:List Value} {f:Nat→Int} {vp:Value} {ne:Nat→Nat} {e:Nat→Nat→Int} {q:Nat→Rat} (rw1:RowAt U [] 1 p (n*n) vs) (el:El Vz U vs f) (hc:n*n≤c) (hcz:chk (n:Int) (n*n) f=0) (h64 : -9223372036854775808≤prec∧prec≤9223372036854775807)
  (hp:Pol b U M vp np ne e q) (hf:Fit np n ne e) (hb1:1≤b) (hb2:b≤100000) (hB1:1≤B) (hB:B≤1000000) (hS:∀ P:Nat,prec=(P:Int)→P≤1000→WSz n f P B (pex np n e q)) :
  Ct Tryz.prog 10 [.agg #[.int .i64 (n:Int),.slice p (n*n) c],vp,.int .i64 prec] G U M fun v U' D =>
   ((prec < 0∨1000 < prec)→v = .tuple #[.agg #[.int .i64 0,.slice none 0 0],.int .i64 2])∧(∀ P:Nat,prec=(P:Int)→P≤1000→WgtP n f P (pex np n e q) U' v)∧D=[]:=by
 obtain ⟨n,e1,hn1,hn8,e2,hb,he,hpm⟩:=Jm hcz
 obtain rfl:n=_:=(Int.ofNat.inj e1).symm
 have hnn:n*n≤8*8:=Nat.mul_le_mul hn8 hn8
 obtain ⟨pp,cp,ms,rfl,-⟩:=id hp
 refine Qh Tryz.func10 rfl rfl rfl rfl ?_
 repeat (first|refine Qc ?_|refine Qa fun _=>?_|refine w_al fun _=>?_)
 rename_i b3 b6
 refine Qd rfl rfl rfl rfl rfl rfl (fun _=>Ve (rw1.up uc (List.nil_sublist _)) (el.up KeptC.out uc) hc (by omega)) ?_
 rintro v1 U1 D hU1 ⟨rfl,-,rfl⟩
 rw [List.nil_append,hcz]
 repeat (first|refine Qc ?_|refine Qa fun _=>?_|refine w_al fun _=>?_)
 refine QK rfl (fun h=>absurd rfl h) (fun _=>?_)
 repeat (first|refine Qc ?_|refine Qa fun _=>?_|refine w_al fun _=>?_)
 refine Qw rfl rfl (fun h1=>?_) (fun h1=>?_)
 ·repeat (first|refine Qc ?_|refine Qa fun _=>?_|refine w_al fun _=>?_)
  exact Qe [] sym rfl (.cons (.cell 0 rfl rfl rfl) (.cons (.tmp rfl) .nil)) uc sb (.inl rfl) ⟨fun _=>rfl,fun P e _=>by omega,rfl⟩
 repeat (first|refine Qc ?_|refine Qa fun _=>?_|refine w_al fun _=>?_)
 refine Qi rfl (fun h2=>?_) (fun h2=>?_)
 ·repeat (first|refine Qc ?_|refine Qa fun _=>?_|refine w_al fun _=>?_)
  exact Qe [] sym rfl (.cons (.cell 0 rfl rfl rfl) (.cons (.tmp rfl) .nil)) uc sb (.inl rfl) ⟨fun _=>rfl,fun P e _=>by omega,rfl⟩
 obtain ⟨P,rfl⟩:∃ P:Nat,prec=(P:Int):=⟨prec.toNat,by omega⟩
 have hpd:=(Vf he hpm).2.1
 have hcon:∀ v:Value,∀ U8,WgtP n f P (pex np n e q) U8 v→((P:Int) < 0∨1000 < (P:Int)→v = .tuple #[.agg #[.int .i64 0,.slice none 0 0],.int .i64 2])∧∀ P':Nat,(P:Int)=(P':Int)→P'≤1000→WgtP n f P' (pex np n e q) U8 v:=fun v U8 h=>⟨fun h3=>by omega,fun P' e _=>by
  obtain rfl:P=P':=Int.ofNat.inj e
  exact h⟩
 replace hS:=hS P rfl (by omega)
 repeat (first|refine Qc ?_|refine Qa fun _=>?_|refine w_al fun _=>?_)
 refine Qd rfl rfl rfl rfl rfl rfl (fun _=>Qda (hp.up uc sb) hf hn8) ?_
 rintro v2 U2 D hU2 ⟨rfl,-,rfl⟩
 rw [List.nil_append]
 repeat (first|refine Qc ?_|refine Qa fun _=>?_|refine w_al fun _=>?_)
 refine QK rfl (fun h=>absurd rfl h) (fun _=>?_)
 obtain ⟨X,hX⟩:=vL hb he hpm hn1 hn8
 obtain ⟨k1,k2⟩:=Bx.szl_ok (B:=1048576) (b:=bd X (P - 1)) n
 replace hS:=hS X hX
 repeat (first|refine Qc ?_|refine Qa fun _=>?_|refine w_al fun _=>?_)
 rw [show (if (P:Int) - 1 > 0 then (P:Int) - 1 else 0)=((P - 1:Nat):Int) by omega]
 refine Qd rfl rfl rfl rfl rfl rfl (fun _=>yh (rw1.up uc (List.nil_sublist _)) (el.up KeptC.out uc) hb he hpm hn1 hn8 hc (show P - 1≤1000 by omega) hX) ?_
 rintro v7 U7 D7 hU7 ⟨_,rfl,⟨pb,cb,bs,rfl,hcb,rb,eb⟩,rfl⟩
 try rw [List.nil_append]
 repeat (first|refine Qc ?_|refine Qa fun _=>?_|refine w_al fun _=>?_)
 refine Qi rfl (fun h3=>?_) (fun h3=>?_)
 ·have hbig:1048576 < Bx.pre (bd X (P - 1)) n:=by
   rcases Nat.lt_or_ge 1048576 (Bx.pre (bd X (P - 1)) n) with h4 | h4
   ·exact h4
   ·have:=k1 h4; omega
  have hc8:=hcon (tup [.agg #[.int .i64 0,.slice none 0 0],.int .i64 7]) U7 ⟨X,hX,fun h=>by omega,fun _=>rfl⟩
  repeat (first|refine Qc ?_|refine Qa fun _=>?_|refine w_al fun _=>?_)
  exact Qe [] sym rfl (.cons (.cell 0 rfl rfl rfl) (.cons (.tmp rfl) .nil)) uc sb (.inl rfl) ⟨hc8.1,hc8.2,rfl⟩
 have hbx:Bx.pre (bd X (P - 1)) n≤1048576:=by
  rcases Nat.lt_or_ge 1048576 (Bx.pre (bd X (P - 1)) n) with h4 | h4
  ·rcases k2 h4 with h5 | h5<;>omega
  ·exact h4
 replace hS:=hS hbx
 clear k1 k2 h3
 obtain ⟨b,hbd⟩:∃ b,b=bd X (P - 1):=⟨_,rfl⟩
 rw [← hbd] at hbx eb hS
 have hsd:∀ i,i < n→b i≤1048576:=fun i hi=>by have:=qF hi hbx; omega
 replace eb:El Vz U7 bs (fun i=>(b i:Int)):=eb.congr rb.len fun i hi=>by
  have:=hsd i hi
  rw [Nat.min_eq_left this]
 have hka:Bx.all b n=Bx.pre b n:=Bx.pre_vol _
 obtain ⟨wt,hwt⟩:∃ wt:Nat→Rat,wt=fun k=>pex np n e q (Bx.vec b n k):=⟨_,rfl⟩
 rw [← hwt] at hS
 repeat (first|refine Qc ?_|refine Qa fun _=>?_|refine w_al fun _=>?_)
 refine Qd rfl rfl rfl rfl rfl rfl (fun _=>Qeq (n:=P) (by omega)) ?_
 rintro v12 U12 D12 hU12 ⟨⟨pl,cl,ls,rfl,hrl,hell⟩,-⟩
 have hel0:El Vq U12 ls (ww n f b wt 0):=hell
 clear hell
 refine Qj (M':=(b6,.var (.agg #[.int .i64 0,.slice none 0 0]),37)::(b3,.var (.agg #[.int .i64 (n:Int),.slice p (n*n) c]),24)::(D12++M)) ?_ pgj
 repeat (first|refine Qc ?_|refine Qa fun _=>?_|refine w_al fun _=>?_)
 refine Qd rfl rfl rfl rfl rfl rfl (fun _=>QbT (rb.up uc (List.nil_sublist _)) (eb.up KeptC.out uc) hsd hn8) ?_
 rintro v8 U8 D8 hU8 ⟨⟨px,cx,xs,rfl,hrx,ex⟩,-⟩
 have ex0:El Vz U8 xs (Bx.vec b n 0):=ex.congr hrx.len.1 fun i hi=>(Bx.vec_zero b n i).symm
 refine Qj (M':=(b6,.var (.agg #[.int .i64 0,.slice none 0 0]),37)::(b3,.var (.agg #[.int .i64 (n:Int),.slice p (n*n) c]),24)::(D8++(D12++M))) ?_ pgj
 clear ex
 repeat (first|refine Qc ?_|refine Qa fun _=>?_|refine w_al fun _=>?_)
 try refine Qu (M':=(b6,.var (.agg #[.int .i64 0,.slice none 0 0]),37)::(b3,.var (.agg #[.int .i64 (n:Int),.slice p (n*n) c]),24)::(D8++(D12++M))) (ULe.refl _) sbk ?_
 refine Ql (fun z E U' M'=>∃ (k:Nat) (mb:Bool) (xs:List Value) (Dx:MH) (ls:List Value) (Dl:MH),(mb=true∧k < Bx.all b n∧El Vz U' xs (Bx.vec b n k)∨mb=false∧k=Bx.all b n)∧RowO TInt 1 Dx px n cx xs∧RowO TR 4 Dl pl P cl ls∧El Vq U' ls (ww n f b wt k)∧(∀ q,Szq (ww n f b wt k q) B)∧E=[(14,.bool mb),(13,.slice px n cx),(12,.slice pl P cl),(10,.slice pb n cb),(2,.int .i64 (P:Int)),(1,.slice pp np cp),(7,.int .i64 0),(6,.pointer (some ⟨b6,0,none⟩)),(3,.pointer (some ⟨b3,0,none⟩))]∧ULe U8 U'∧M'=(b6,.var (.agg #[.int .i64 0,.slice none 0 0]),37)::(b3,.var (.agg #[.int .i64 (n:Int),.slice p (n*n) c]),24)::(Dx++(Dl++M))∧z=Bx.all b n - k) (n0:=Bx.all b n - 0) (E0:=[(14,.bool true),(13,.slice px n cx),(12,.slice pl P cl),(10,.slice pb n cb),(2,.int .i64 (P:Int)),(1,.slice pp np cp),(7,.int .i64 0),(6,.pointer (some ⟨b6,0,none⟩)),(3,.pointer (some ⟨b3,0,none⟩))]) ⟨rfl,rfl,rfl,rfl,rfl,rfl,rfl,rfl,rfl,trivial⟩ ⟨0,true,xs,D8,ls,D12,(.inl ⟨rfl,Bx.vol_pos _ _ _,ex0⟩),hrx,hrl,hel0.up QF uc,(fun q=>Yn.mono hB1),rfl,uc,rfl,rfl⟩ ?_
 clear hrx ex0 hrl hel0
 rintro z E U9 M' ⟨k,mb,xs,Dx,ls,Dl,hmb,hrx,hrl,hel,hsz,rfl,hU9,rfl,rfl⟩
 try refine Qb ?_
 rcases hmb with ⟨rfl,hk,ex⟩ | ⟨rfl,rfl⟩
 ·have hxb:∀ a,a < n → -1048576≤Bx.vec b n k a∧Bx.vec b n k a≤1048576:=fun a ha=>by
   have:=hsd a ha
   have:=Bx.vec_le b n k a
   omega
  have hkp:k < Bx.pre b n:=by omega
  obtain ⟨hsp,hsz1⟩:=hS k hkp
  try refine Qb ?_
  refine Qd rfl rfl rfl rfl rfl rfl (fun _=>Qbn (rw1.up uc (List.nil_sublist _)) (el.up KeptC.out uc) hb (hrx.at sb) ex hxb hn8) ?_
  rintro v U' D hU ⟨rfl,rfl,rfl⟩
  repeat (first|refine Qc ?_|refine Qa fun _=>?_|refine w_al fun _=>?_)
  rw [QfB hpd]
  refine Qi rfl (fun hq=>?_) (fun hq=>?_)
  ·have hqP:vn n f b k < P:=by omega
   have rX:=hrl.at (U:=U9) (M:=(b6,.var (.agg #[.int .i64 0,.slice none 0 0]),37)::(b3,.var (.agg #[.int .i64 (n:Int),.slice p (n*n) c]),24)::(Dx++(Dl++M))) sb
   obtain ⟨v1,hv1⟩:=rX.at hqP
   obtain ⟨x1,rfl,hx1⟩:=hel _ _ hv1
   rw [List.nil_append]
   try refine Qb ?_
   refine Qx [9,10,11] [0,1,2,3,4,5,6,7,8,9,10,11] sym (by kernel_rfl) ?_
   try refine Qb ?_
   refine sl_y (Qf sym rfl rfl rfl rfl rfl rfl (rX.lt hv1) (rX.get _ _ hv1).1) rfl rfl rfl rfl ?_; refine sl_y (Qp sym rfl rfl rfl rfl rfl rX hv1) rfl rfl rfl rfl ?_
   try refine Qb ?_
   refine Qd rfl rfl rfl rfl rfl rfl (fun _=>QfI (hp.up uc sb) hf (hrx.at sb) ex hxb hn8 hb1 hb2) ?_
   rintro v Uh69 D hU ⟨xh69,rfl,h69,rfl⟩
   repeat (first|refine Qc ?_|refine Qa fun _=>?_|refine w_al fun _=>?_)
   have hlt:B≤34359738368:=by omega
   refine Qd rfl rfl rfl rfl rfl rfl (fun _=>yP (hx1.rep.up uc (List.nil_sublist _)) (hx1.le (hsz (vn n f b k)) hlt) (h69.rep.up uc (List.nil_sublist _)) (h69.le hsp hlt)) ?_
   rintro v Uh70 D hU ⟨xh70,rfl,h70,rfl⟩
   repeat (first|refine Qc ?_|refine Qa fun _=>?_|refine w_al fun _=>?_)
   refine QB (j:=vn n f b k) hqP (hrl.some (by omega)) ?_
   refine QG (v:=xh70.v) (X:=(b6,.var (.agg #[.int .i64 0,.slice none 0 0]),37)::(b3,.var (.agg #[.int .i64 (n:Int),.slice p (n*n) c]),24)::(Dx++M)) hrl pgj hqP (fun D3 hr3=>?_)
   refine Qj (M':=(b6,.var (.agg #[.int .i64 0,.slice none 0 0]),37)::(b3,.var (.agg #[.int .i64 (n:Int),.slice p (n*n) c]),24)::(Dx++(D3++M))) ?_ pgj
   have hel':El Vq Uh70 (ls.set (vn n f b k) xh70.v) (ww n f b wt (k+1)):=YH (fun a y hy hne=>by
    have h5:Vq Uh70 y _:=QF _ _ _ _ uc (hel a y hy)
    have h6:ww n f b wt (k+1) a=ww n f b wt k a:=if_neg (fun h=>hne h.symm)
    rw [h6]; exact h5) (by
    have h6:ww n f b wt (k+1) (vn n f b k)=ww n f b wt k (vn n f b k)+wt k:=if_pos rfl
    rw [h6,hwt]
    exact ⟨xh70,rfl,by rw [hwt] at h70; exact h70⟩)
   try refine Qb ?_
   refine JP rfl rfl rfl rfl rfl rfl ((vN (X:=(b6,.var (.agg #[.int .i64 0,.slice none 0 0]),37)::(b3,.var (.agg #[.int .i64 (n:Int),.slice p (n*n) c]),24)::(D3++M)) (rb.up uc (List.nil_sublist _)) (eb.up KeptC.out uc) hsd hrx (ex.up KeptC.out uc) hk hn1 hn8).perm pgj) ?_
   rintro v5 U5 M5 hU5 ⟨Dx',xs',rfl,hr',hcase⟩
   refine Qj (M':=(b6,.var (.agg #[.int .i64 0,.slice none 0 0]),37)::(b3,.var (.agg #[.int .i64 (n:Int),.slice p (n*n) c]),24)::(Dx'++(D3++M))) ?_ pgj
   rcases hcase with ⟨hlt,rfl,hex'⟩ | ⟨heq,rfl⟩
   ·try refine Qb ?_
    exact Qg (E':=[(14,.bool true),(13,.slice px n cx),(12,.slice pl P cl),(10,.slice pb n cb),(2,.int .i64 (P:Int)),(1,.slice pp np cp),(7,.int .i64 0),(6,.pointer (some ⟨b6,0,none⟩)),(3,.pointer (some ⟨b3,0,none⟩))]) (m:=Bx.all b n - (k+1)) ⟨rfl,rfl,rfl,rfl,rfl,rfl,rfl,rfl,rfl,trivial⟩ (by omega) ⟨k+1,true,xs',Dx',_,D3,.inl ⟨rfl,hlt,hex'⟩,hr',hr3,hel'.up QF uc,hsz1,rfl,uc,rfl,rfl⟩
   ·try refine Qb ?_
    exact Qg (E':=[(14,.bool false),(13,.slice px n cx),(12,.slice pl P cl),(10,.slice pb n cb),(2,.int .i64 (P:Int)),(1,.slice pp np cp),(7,.int .i64 0),(6,.pointer (some ⟨b6,0,none⟩)),(3,.pointer (some ⟨b3,0,none⟩))]) (m:=Bx.all b n - (k+1)) ⟨rfl,rfl,rfl,rfl,rfl,rfl,rfl,rfl,rfl,trivial⟩ (by omega) ⟨k+1,false,xs',Dx',_,D3,.inr ⟨rfl,heq⟩,hr',hr3,hel'.up QF uc,hsz1,rfl,uc,rfl,rfl⟩
  ·have hel':El Vq U9 ls (ww n f b wt (k+1)):=hel.congr hrl.len.1 fun i hi=>by
    exact (if_neg (by omega)).symm
   try refine Qb ?_
   refine JP rfl rfl rfl rfl rfl rfl ((vN (X:=(b6,.var (.agg #[.int .i64 0,.slice none 0 0]),37)::(b3,.var (.agg #[.int .i64 (n:Int),.slice p (n*n) c]),24)::(Dl++M)) (rb.up uc (List.nil_sublist _)) (eb.up KeptC.out uc) hsd hrx ex hk hn1 hn8).perm pgj) ?_
   rintro v5 U5 M5 hU5 ⟨Dx',xs',rfl,hr',hcase⟩
   refine Qj (M':=(b6,.var (.agg #[.int .i64 0,.slice none 0 0]),37)::(b3,.var (.agg #[.int .i64 (n:Int),.slice p (n*n) c]),24)::(Dx'++(Dl++M))) ?_ pgj
   rcases hcase with ⟨hlt,rfl,hex'⟩ | ⟨heq,rfl⟩
   ·try refine Qb ?_
    exact Qg (E':=[(14,.bool true),(13,.slice px n cx),(12,.slice pl P cl),(10,.slice pb n cb),(2,.int .i64 (P:Int)),(1,.slice pp np cp),(7,.int .i64 0),(6,.pointer (some ⟨b6,0,none⟩)),(3,.pointer (some ⟨b3,0,none⟩))]) (m:=Bx.all b n - (k+1)) ⟨rfl,rfl,rfl,rfl,rfl,rfl,rfl,rfl,rfl,trivial⟩ (by omega) ⟨k+1,true,xs',Dx',ls,Dl,.inl ⟨rfl,hlt,hex'⟩,hr',hrl,hel'.up QF uc,hsz1,rfl,uc,rfl,rfl⟩
   ·try refine Qb ?_
    exact Qg (E':=[(14,.bool false),(13,.slice px n cx),(12,.slice pl P cl),(10,.slice pb n cb),(2,.int .i64 (P:Int)),(1,.slice pp np cp),(7,.int .i64 0),(6,.pointer (some ⟨b6,0,none⟩)),(3,.pointer (some ⟨b3,0,none⟩))]) (m:=Bx.all b n - (k+1)) ⟨rfl,rfl,rfl,rfl,rfl,rfl,rfl,rfl,rfl,trivial⟩ (by omega) ⟨k+1,false,xs',Dx',ls,Dl,.inr ⟨rfl,heq⟩,hr',hrl,hel'.up QF uc,hsz1,rfl,uc,rfl,rfl⟩
 ·have hser:Ls (Wq B) 4 P U9 ((b6,.var (.agg #[.int .i64 0,.slice none 0 0]),37)::(b3,.var (.agg #[.int .i64 (n:Int),.slice p (n*n) c]),24)::(Dx++(Dl++M))) (.slice pl P cl) (ww n f b wt (Bx.all b n)) :=
   ⟨_,_,ls,rfl,hrl.len.2.1,hrl.at sb,fun a x hx=>(hel a x hx).w (hsz a)⟩
  repeat (first|refine Qc ?_|refine Qa fun _=>?_|refine w_al fun _=>?_)
  refine Qd rfl rfl rfl rfl rfl rfl (fun _=>Qbj (hser.up VM uc sb) hB (by omega)) ?_
  rintro v57 U57 D57 hU57 ⟨s,r,hs,rfl,hvs,rfl⟩
  rw [List.nil_append]
  obtain ⟨_,rfl,hvs⟩:=hvs
  obtain ⟨pv,cv',us,rfl,-⟩:=id hvs
  have hc8:=hcon (tup [.agg #[.int .i64 (s:Int),.slice pv (P - s) cv'],.int .i64 0]) U57 ⟨X,hX,fun _=>⟨s,_,by rw [← hbd,← hwt,← hka]; exact hs,rfl,⟨_,rfl,by rw [← hbd,← hwt,← hka]; exact hvs⟩⟩,fun h=>by rw [← hbd] at h; omega⟩
  repeat (first|refine Qc ?_|refine Qa fun _=>?_|refine w_al fun _=>?_)
  exact Qe [] sym rfl (.cons (.cell 0 rfl rfl rfl) (.cons (.tmp rfl) .nil)) uc sb (.inl rfl) ⟨hc8.1,hc8.2,rfl⟩
end Go.Proofs.YthnnlgjlhnmhnaaGreat
