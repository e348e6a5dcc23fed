/- The law of layer 9 on memory: fields, regions, comparisons. -/
import Derived.Test.YtahcddpdgpjbnaaB308
import Derived.Test.YtahcddpdgpjbnaaB300
import Derived.Test.YtahcddpdgpjbnaaR
import Derived.Test.YtahcddpdgpjbnaaM35
namespace Go.Proofs.Ytahcddpdgpjbnaa
open Go.Hp
variable {G:World} {U U':UH} {M M':MH}
theorem jh {P:Program} {T:TT} {N:Nat} {E:Env} {o:Oper} {t:Nat} {x:Operand} {a:Addr} {v:Value} {ti:TI} (hS:Sym P T) (ho:o.op = .load t x) (hx:ev E x=some (.pointer (some a))) (hT:lkT T t=some ti) (hk':one ti.k=true) (h:U.cell? a=some v):Yl P N G o E U M v :=
 Jo ho hx fun w hw=>QQ (hS.at hT) hk' (hw.cellU h)
def qf (k:FQx):Rat:=Rat.divInt (sg k.1.1 (val k.1.2)) (sg k.2.1 (val k.2.2))
theorem Exv.wm {b:Nat} {v:Value} {k:FQx} (h:Exv M U v k) (h1:k.1.2.length≤b) (h2:k.2.2.length≤b):Wm M b U v (qf k):=by
 obtain ⟨x,e,s1,d1,s2,d2⟩:=h
 have n1:=d1.len
 have n2:=d2.len
 exact ⟨x,e,⟨_,_,⟨_,d1,rfl⟩,⟨_,d2,rfl⟩,by rw [s1,s2]; rfl⟩,by omega,by omega⟩
theorem QcO {x y:QV} (h:x.v.cells.toList=y.v.cells.toList):x.num.n=y.num.n∧x.den.n=y.den.n:=by
 have h1:[Value.bool x.num.neg,.slice x.num.p x.num.n x.num.c,.bool x.den.neg,.slice x.den.p x.den.n x.den.c]=[Value.bool y.num.neg,.slice y.num.p y.num.n y.num.c,.bool y.den.neg,.slice y.den.p y.den.n y.den.c]:=h
 simp only [List.cons.injEq,Value.slice.injEq,and_true] at h1
 exact ⟨h1.2.1.2.1,h1.2.2.2.2.1⟩
theorem QcK {n:Nat} {p:Option Addr} {vs:List Value} {f:Nat→Rat} (rw1:RowAt U [] 4 p n vs) (el:El Xq U vs f) (hv:∀ (k:Nat) v,vs[k]?=some v→∃ x:QV,v=x.v∧x.le 1):∃ L:Nat→FQx,El (Exv []) U vs L∧∀ k,k < n→(L k).1.2.length≤1∧(L k).2.2.length≤1:=by
 have h:∀ k:Nat,∃ t:FQx,∀ v,vs[k]?=some v→Exv [] U v t∧t.1.2.length≤1∧t.2.2.length≤1:=fun k=>by
  cases hk:vs[k]? with
  | none=>exact ⟨((false,[]),false,[]),fun v h=>by cases h⟩
  | some v =>
   obtain ⟨x,e,⟨m,d,⟨l1,d1,-⟩,⟨l2,d2,-⟩,-⟩⟩:=el k v hk
   obtain ⟨y,e2,n1,n2⟩:=hv k v hk
   obtain ⟨i1,i2⟩:=QcO (x:=x) (y:=y) (by rw [← e,← e2])
   refine ⟨((x.num.neg,l1),x.den.neg,l2),fun u hu=>?_⟩
   rw [Option.some.injEq] at hu
   subst hu
   have m1:=d1.len
   have m2:=d2.len
   exact ⟨⟨x,e,rfl,d1,rfl,d2⟩,by show l1.length≤1; omega,by show l2.length≤1; omega⟩
 refine ⟨fun k=>Classical.choose (h k),fun k v hk=>(Classical.choose_spec (h k) v hk).1,fun k hk=>?_⟩
 obtain ⟨v,hv⟩:=rw1.at hk
 exact (Classical.choose_spec (h k) v hv).2
theorem _root_.Go.Hp.Ct.know {P:Program} {f:Nat} {args:List Value} {R R':Value→UH→MH→Prop} (h:Ct P f args G U M R) (k:∀ v U' D w,ULe U U'→Mem G U' (D++M) w→R v U' D→R' v U' D):Ct P f args G U M R' :=
 ⟨h.callable,fun w hw=>(h.calls w hw).mono fun _ _ ⟨v,U',D,h1,h2,h3,h4⟩=>⟨v,U',D,h1,h2,h3,k _ _ _ _ h2 h3 h4⟩⟩
theorem Qcx {w:World} (hw:Mem G U M w) {s n:Nat} {p:Option Addr} {vs vs':List Value} (r1:RowAt U [] s p n vs) (r2:RowAt U [] s p n vs') {k:Nat} {v v':Value} (h1:vs[k]?=some v) (h2:vs'[k]?=some v'):v.cells.toList=v'.cells.toList:=by
 have e1:=r1.size _ (List.mem_of_getElem? h1)
 have e2:=r2.size _ (List.mem_of_getElem? h2)
 have hw:=hw.anti (ULe.refl _) (List.nil_sublist M)
 refine List.ext_getElem? fun j=>?_
 cases hj:v.cells.toList[j]? with
 | none =>
  have:=List.getElem?_eq_none_iff.1 hj
  rw [List.getElem?_eq_none (by omega)]
 | some x =>
  have hlt:=(List.getElem?_eq_some_iff.1 hj).1
  cases hj2:v'.cells.toList[j]? with
  | none =>
   have:=List.getElem?_eq_none_iff.1 hj2
   omega
  | some y =>
   have k1:=(r1.get k v h1).2 j x hj _ _ hw
   have k2:=(r2.get k v' h2).2 j y hj2 _ _ hw
   rw [k1] at k2
   exact k2
def Sm (r c:Int) (n:Nat) (vs:List Value):Prop:=n≤5*5∧(Vld r c n→r≤5∧c≤5)∧∀ (k:Nat) v,vs[k]?=some v→∃ x:QV,v=x.v∧x.le 1
theorem QdQ {w:World} (hw:Mem G U M w) {r c:Int} {n cc:Nat} {p:Option Addr} {vs:List Value} {f:Nat→Rat} (h:Lit 5 U (.agg #[.int .i64 r,.int .i64 c,.slice p n cc]) r c n f) (rw1:RowAt U [] 4 p n vs) (el:El Xq U vs f):Sm r c n vs:=by
 obtain ⟨h1,h2,a,h3,p2,c2,us,h4,-,h5,h6⟩:=h
 subst h4
 cases h3
 refine ⟨h1,h2,fun k v hk=>?_⟩
 obtain ⟨u,hu⟩:=h5.at (rw1.lt hk)
 obtain ⟨x,rfl,-⟩:=el k v hk
 obtain ⟨y,rfl,-,l1,l2⟩:=h6 k u hu
 obtain ⟨i1,i2⟩:=QcO (Qcx hw rw1 h5 hk hu)
 exact ⟨x,rfl,by omega,by omega⟩
theorem Qbq {pl:Option Addr} {cl:Nat} {ra ca rb cb:Int} {na nb cca ccb:Nat} {pa pb:Option Addr} {vsa vsb:List Value} {fa fb:Nat→Rat} (rl:RowAt U M 3 pl 2 [.agg #[.int .i64 ra,.int .i64 ca,.slice pa na cca],.agg #[.int .i64 rb,.int .i64 cb,.slice pb nb ccb]])
  (ha:Raw U (.agg #[.int .i64 ra,.int .i64 ca,.slice pa na cca]) ra ca na fa) (hb:Raw U (.agg #[.int .i64 rb,.int .i64 cb,.slice pb nb ccb]) rb cb nb fb) (rwa:RowAt U [] 4 pa na vsa) (ela:El Xq U vsa fa) (rwb:RowAt U [] 4 pb nb vsb) (elb:El Xq U vsb fb) :
  Ct Try.prog 5 [.int .i64 5,.slice pl 2 cl] G U M fun v U' D=>∃ b:Bool,v = .bool b∧(b=true→Sm ra ca na vsa∧Sm rb cb nb vsb)∧U=U'∧D=[] :=
 (QcE (most:=5) (r:=fun k=>if k=0 then ra else rb) (c:=fun k=>if k=0 then ca else cb) (n:=fun k=>if k=0 then na else nb) (f:=fun k=>if k=0 then fa else fb) rl (YY (P:=fun k v=>Raw U v (if k=0 then ra else rb) (if k=0 then ca else cb) (if k=0 then na else nb) (if k=0 then fa else fb)) ha hb) (by decide) (by decide)).know fun v U' D w hU hw ⟨b,h1,h2,h3,h4⟩=>by
  subst h3
  exact ⟨b,h1,fun hb=>⟨QdQ hw (h2 hb 0 _ rfl) rwa ela,QdQ hw (h2 hb 1 _ rfl) rwb elb⟩,rfl,h4⟩
theorem QaT {r c:Int} {n cc:Nat} {p:Option Addr} {vs:List Value} {L:Nat→FQx} {Da Dd:MH} (hrow:RowO TR 4 Da p n cc vs) (hel:∀ U2,El (Exv Dd) U2 vs L) (hl:∀ k,k < n→(L k).1.2.length≤1∧(L k).2.2.length≤1) (hn:n≤5*5) (hV:Vld r c n→r≤5∧c≤5) (U:UH) :
  LitX (Da++Dd) U (.agg #[.int .i64 r,.int .i64 c,.slice p n cc]) r c n fun k=>qf (L k) :=
 ⟨hn,hV,_,rfl,p,cc,vs,rfl,hrow.len.2.1,hrow.at (List.sublist_append_left ..),fun k x hk=>by
  obtain ⟨l1,l2⟩:=hl k (by rw [← hrow.len.1]; exact (List.getElem?_eq_some_iff.1 hk).1)
  exact ((hel U k x hk).up (ULe.refl _) (List.sublist_append_right ..)).wm l1 l2⟩
structure Hd where
 r:Int
 c:Int
 p:Option Addr
 n:Nat
 cc:Nat
abbrev Hd.v (h:Hd):Value := .agg #[.int .i64 h.r,.int .i64 h.c,.slice h.p h.n h.cc]
def RH (U:UH) (h:Hd):Prop:=h.n≤1000000∧∃ (vs:List Value) (f:Nat→Rat),RowAt U [] 4 h.p h.n vs∧El Vq U vs f
theorem RM.hd {v:Value} (h:RM U v):∃ k:Hd,v=k.v∧RH U k:=by
 obtain ⟨r,c,p,n,cc,vs,f,h1,h2,h3,h4⟩:=h
 exact ⟨⟨r,c,p,n,cc⟩,h1,h2,vs,f,h3,h4⟩
theorem RH.up {h:Hd} (k:RH U h) (hU:ULe U U'):RH U' h:=by
 obtain ⟨h1,vs,f,h2,h3⟩:=k
 exact ⟨h1,vs,f,h2.up hU (List.Sublist.refl _),h3.up QA hU⟩
theorem Qde {w:World} (hw:Mem G U M w) {p:Option Addr} {n c:Nat} {l:List Nat} (h:Dig U [] p n c l):GS U (.slice p n c) :=
 ⟨p,n,c,rfl,Nat.le_trans h.cap h.capm,fun i hi=>by
  obtain ⟨d,-,-,h1,h2⟩:=h.get hi
  exact ⟨h1,d,QaL hw h2⟩⟩
theorem QdU {w:World} (hw:Mem G U M w) {x:QV} {q:Rat} (h:x.nrm U [] q):GS U (.slice x.num.p x.num.n x.num.c)∧GS U (.slice x.den.p x.den.n x.den.c):=by
 obtain ⟨⟨l1,d1,-⟩,l2,d2,-⟩:=h
 exact ⟨Qde hw d1,Qde hw d2⟩
theorem Qel {w:World} (hw:Mem G U M w) {hs:List Hd} (h:∀ k,k ∈ hs→RH U k):Reg U (hs.map fun k=>(k.p,k.n)):=fun p n hp j hj=>by
 obtain ⟨k,hk,e⟩:=List.mem_map.1 hp
 cases e
 obtain ⟨-,vs,f,h2,h3⟩:=h k hk
 obtain ⟨v,hv⟩:=h2.at hj
 obtain ⟨x,rfl,hx⟩:=h3 _ _ hv
 obtain ⟨g1,g2⟩:=h2.get _ _ hv
 obtain ⟨s1,s2⟩:=QdU hw hx
 have cl:∀ i u,x.v.cells.toList[i]?=some u→U.cell? ((elt k.p (j*4)).add i)=some u:=fun i u hu=>by
  rw [Jl]
  exact QaL hw fun G w hw=>g2 i u hu G w hw
 exact ⟨g1,⟨_,cl 0 _ rfl⟩,⟨_,cl 1 _ rfl,s1⟩,⟨_,cl 2 _ rfl⟩,⟨_,cl 3 _ rfl,s2⟩⟩
def G1 (W:World):World:={ W with drawn:=7 }
theorem Qcq {W w:World} (hU:ULe (UW W) U) (h:Mem (G0 W) U M w):Mem (G1 W) (fun _=>none) M w:=by
 refine ⟨h.os,h.tape,h.output,fun k o hk=>h.old k o (hU k o hk),(fun _ _ hk => by cases hk),fun e he=>?_,(fun _ _ hk => by cases hk),fun e he=>⟨(h.own e he).1,rfl⟩,h.nd⟩
 have h2:=(h.own e he).2
 show W.heap[e.1]?=none
 cases hk:W.heap[e.1]? with
 | none=>rfl
 | some o=>rw [hU e.1 o hk] at h2; cases h2
def back (U:UH) (W:World):UH:=fun k=>match U k with
 | some o=>some o
 | none=>W.heap[k]?
theorem Qby {W w:World} (h:Mem (G1 W) U M w):Mem (G0 W) (back U W) M w:=by
 refine ⟨h.os,h.tape,h.output,fun k o hk=>?_,fun k o _=>⟨?_,fun e=>?_⟩,fun e _=>?_,fun k o hk=>?_,fun e he=>⟨(h.own e he).1,?_⟩,h.nd⟩
 ·simp [G0] at hk
 ·simp [G0]
 ·simp [G0] at e
 ·simp [G0]
 ·unfold back at hk
  cases hu:U k with
  | none=>rw [hu] at hk; exact h.fr k o hk
  | some x=>rw [hu] at hk; rw [← hk]; exact h.old k x hu
 ·unfold back
  rw [(h.own e he).2]
  exact h.ownG e he
theorem QdL {W:World} (h:∀ k o,U k=some o→W.heap[k]?=none):ULe (UW W) (back U W):=fun k o hk=>by
 unfold back
 cases hu:U k with
 | none=>exact hk
 | some x =>
  have hk:W.heap[k]?=some o:=hk
  rw [h k x hu] at hk; cases hk
theorem QaI {W w:World} (h:Mem (G1 W) U M w):Free U:=fun k o hk=>(h.new k o hk).2 rfl
theorem Qep {W w:World} (h:Mem (G1 W) U M w):∀ k o,U k=some o→W.heap[k]?=none:=fun k o hk=>(h.new k o hk).1
theorem QeB {W:World}:Ct Try.prog 14 [.int .i64 5] (G1 W) U M fun v U' D=>∃ x:QV,v=x.v∧GS U' (.slice x.num.p x.num.n x.num.c)∧GS U' (.slice x.den.p x.den.n x.den.c)∧Free U'∧D=[] :=
 (Qbj (z:=5) (by decide) (by decide)).settle.know fun v U' D w hU hw ⟨h1,_,_,⟨x,h2,h3,_⟩,_,_,h8⟩=>by
  obtain ⟨g1,g2⟩:=QdU hw (h3.sett h8)
  exact ⟨x,h2,g1,g2,QaI hw,h1⟩
theorem yv {n cx cy:Nat} {p q:Option Addr} {vs ws:List Value} {L:Nat→FQx} (rx:RowAt U M 4 p n vs) (ex:El (Exv M) U vs L) (ry:RowAt U M 4 q n ws) (ey:El (Exv M) U ws L) (hn:n≤1000000) :
  Ct Try.prog 37 [.slice p n cx,.slice q n cy] G U M fun v U' D=>v = .bool true∧U=U'∧D=[]:=by
 refine Qf Try.func37 rfl rfl rfl rfl ?_
 repeat (first|refine Qc ?_|refine Qb fun _=>?_|refine w_al fun _=>?_)
 refine JU rfl (fun h=>absurd rfl h) (fun _=>?_)
 repeat (first|refine Qc ?_|refine Qb fun _=>?_|refine w_al fun _=>?_)
 refine Qm (fun m E U' M'=>∃ i:Nat,i≤n∧E=[(5,.int .i64 (i:Int)),(0,.slice p n cx),(1,.slice q n cy)]∧U=U'∧M'=M∧m=n - i) (n0:=n)
  (E0:=[(5,.int .i64 ((0:Nat):Int)),(0,.slice p n cx),(1,.slice q n cy)]) ⟨rfl,rfl,rfl,trivial⟩ ⟨0,by omega,rfl,rfl,rfl,rfl⟩ ?_
 rintro m E U' M' ⟨i,hi,rfl,rfl,rfl,rfl⟩
 try refine Qa ?_
 refine Qk rfl (fun h=>?_) (fun h=>?_)
 ·have hin:i < n:=by omega
  obtain ⟨v1,hv1⟩:=rx.at hin
  obtain ⟨x,rfl,hx⟩:=ex _ _ hv1
  obtain ⟨v2,hv2⟩:=ry.at hin
  obtain ⟨y,rfl,hy⟩:=ey _ _ hv2
  try refine Qa ?_
  refine Qq [0,1,2,3,4,5,6,7,8,9] sym (by kernel_rfl) ?_
  try refine Qa ?_
  refine sl_y (Qj sym rfl rfl rfl rfl rfl rfl (rx.lt hv1) (rx.get _ _ hv1).1) rfl rfl rfl rfl ?_; refine sl_y (Qu sym rfl rfl rfl rfl rfl rx hv1) rfl rfl rfl rfl ?_
  try refine Qa ?_
  refine sl_y (Qj sym rfl rfl rfl rfl rfl rfl (ry.lt hv2) (ry.get _ _ hv2).1) rfl rfl rfl rfl ?_; refine sl_y (Qu sym rfl rfl rfl rfl rfl ry hv2) rfl rfl rfl rfl ?_
  try refine Qa ?_
  refine Qd rfl rfl rfl rfl rfl rfl (fun _=>vv (x:=x) (y:=y) (hx.d1.up (ULe.refl _) sb) (hy.d1.up (ULe.refl _) sb) (hx.d2.up (ULe.refl _) sb) (hy.d2.up (ULe.refl _) sb) (hx.s1.trans hy.s1.symm) (hx.s2.trans hy.s2.symm)) ?_
  rintro v3 U3 D3 hU3 ⟨rfl,rfl,rfl⟩
  rw [List.nil_append]
  try refine Qa ?_
  exact Qi (E':=[(5,.int .i64 ((i:Int)+1)),(0,.slice p n cx),(1,.slice q n cy)]) (m:=n - (i+1)) ⟨rfl,rfl,rfl,trivial⟩ (by omega) ⟨i+1,by omega,rfl,rfl,rfl,rfl⟩
 ·try refine Qa ?_
  exact Qe [] sym rfl (.cons (.tmp rfl) .nil) uc sb (.inl rfl) ⟨rfl,rfl,rfl⟩
theorem YQ {r c:Int} {n cx cy:Nat} {p q:Option Addr} {vs ws:List Value} {L:Nat→FQx} (rx:RowAt U M 4 p n vs) (ex:El (Exv M) U vs L) (ry:RowAt U M 4 q n ws) (ey:El (Exv M) U ws L) (hn:n≤1000000) :
  Ct Try.prog 15 [.agg #[.int .i64 r,.int .i64 c,.slice p n cx],.agg #[.int .i64 r,.int .i64 c,.slice q n cy]] G U M fun v U' D=>v = .bool true∧U=U'∧D=[]:=by
 refine Qf Try.func15 rfl rfl rfl rfl ?_
 repeat (first|refine Qc ?_|refine Qb fun _=>?_|refine w_al fun _=>?_)
 refine Qw rfl rfl (fun _=>?_) (fun h=>absurd rfl h)
 repeat (first|refine Qc ?_|refine Qb fun _=>?_|refine w_al fun _=>?_)
 refine Qw rfl rfl (fun _=>?_) (fun h=>absurd rfl h)
 repeat (first|refine Qc ?_|refine Qb fun _=>?_|refine w_al fun _=>?_)
 refine Qd rfl rfl rfl rfl rfl rfl (fun _=>yv (rx.up uc sb) (JV ex uc sb) (ry.up uc sb) (JV ey uc sb) hn) ?_
 rintro v3 U3 D3 hU3 ⟨rfl,rfl,rfl⟩
 rw [List.nil_append]
 repeat (first|refine Qc ?_|refine Qb fun _=>?_|refine w_al fun _=>?_)
 exact Qe [] sym rfl (.cons (.tmp rfl) .nil) uc sb (.inl rfl) ⟨rfl,rfl,rfl⟩
end Go.Proofs.Ytahcddpdgpjbnaa
