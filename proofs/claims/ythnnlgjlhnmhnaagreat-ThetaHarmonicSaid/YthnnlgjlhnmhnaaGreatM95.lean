/- Texts of this seat's own, merged: each begins with its own remark. -/
import Derived.Test.YthnnlgjlhnmhnaaGreatM2
import Derived.ProofKit
import Derived.Lib.SmallJoins
import Derived.Carry
import Derived.Test.YthnnlgjlhnmhnaaGreatM18
import Derived.Test.YthnnlgjlhnmhnaaGreatM35
import Derived.Deep.Slices
import Derived.Deep.Strs
import Derived.Test.YthnnlgjlhnmhnaaGreatVz
/- From a law's contract to its row: integers as arguments; what holds behind the call. -/
namespace Go.Proofs.YthnnlgjlhnmhnaaGreat
open Go.Hp Go.ChangeShapes Go.WideShapes Go.ChangeAt Go.RowKit Go.Joins
theorem Tryz.own:ownKnob Tryz.prog.godebug=none:=by kernel_rfl
theorem Tryz.laidOut:laidOutB Tryz.prog=true:=by kernel_rfl
theorem cellsI:Tryz.prog.cellsOf 46=2:=by kernel_rfl
theorem cellsU:Tryz.prog.cellsOf 131=1:=by kernel_rfl
def UW (W:World):UH:=fun k=>W.heap[k]?
theorem QeR (W:World):Mem W (UW W) [] W:=⟨rfl,rfl,rfl,fun _ _ h=>h,fun _ h=>(by cases h),List.Pairwise.nil⟩
theorem QaH {W:World} {a:Addr} {v:Value} (h:W.cell? a=some v):(UW W).cell? a=some v:=by
 unfold UH.cell? UW
 unfold World.cell? at h
 split at h<;>simp_all
theorem QaC {W W':World} {U':UH} {M:MH} (hU:ULe (UW W) U') (h:Mem W U' M W'):Below W.heap.size W W':=by
 have hb:∀ k,k < W.heap.size→W'.heap[k]?=W.heap[k]?:=fun k hk=>by
  have h1:=Array.getElem?_eq_getElem hk
  rw [h1]
  exact h.old _ _ (hU _ _ h1)
 refine ⟨h.os,h.tape,h.output,?_,hb⟩
 rcases Nat.lt_or_ge W'.heap.size W.heap.size with hlt | hge
 ·have h1:=hb _ hlt
  rw [Array.getElem?_eq_getElem hlt] at h1
  simp at h1
 ·exact hge
theorem Qef {W:World} {f:Nat} {args:List Value} (h:Ct Tryz.prog f args W (UW W) [] fun v _ _=>v = .bool true) :
  Calls Tryz.prog f args.toArray W fun e W'=>e = .returned (.bool true)∧Below W.heap.size W W' :=
 (h.calls W (QeR W)).mono fun _ _ ⟨_,_,_,h1,h2,h3,h4⟩=>⟨by rw [h1,h4],QaC h2 h3⟩
theorem ya {n:Int} (h:(Lit.int .i64 n).wf=true) : -9223372036854775808≤n∧n≤9223372036854775807:=by
 simp [Lit.wf,IntKind.min,IntKind.max,IntKind.signed,IntKind.bits] at h
 omega
section
variable {H:Type} {enc:TypeId × Value→H}
theorem Qce {W:World} {fuel:Nat} {c0 c1:Value} {y:DataW H × List MemPlace} (h:DataW.trod enc Tryz.prog W 0 (fun _=>true) true fuel 46 [c0,c1]=some y) :
  ∃ (x:IV) (l:List Nat),c0 = .bool x.neg∧c1 = .slice x.p x.n x.c∧Dig (UW W) [] x.p x.n x.c l:=by
 obtain ⟨y0,y1,m,_,_,h0,h1⟩:=trod_struct2 Tryz.underlying46 h
 have k0:Tryz.prog.cellsOf 4=1:=by kernel_rfl
 have k1:Tryz.prog.cellsOf 44=1:=by kernel_rfl
 simp only [k0,k1,List.drop_zero,List.take_succ_cons,List.take_zero,List.drop_succ_cons] at h0 h1
 obtain ⟨neg,e0⟩:∃ b,[c0]=[Value.bool b]:=by
  obtain ⟨b,h,_⟩:=DataW.trod_bool Tryz.underlying4 h0
  exact ⟨b,h⟩
 rcases open_ints Tryz.underlying44 Tryz.underlying131 cellsU h1 with ⟨hcs,hx⟩ | ⟨a,len,cap,zs,hcs,_,hl,hm,hz,hx,hcell,hwz⟩
 ·simp only [List.cons.injEq,and_true] at e0 hcs
  subst e0 hcs
  exact ⟨⟨neg,none,0,0⟩,[],rfl,rfl,Dig.nil⟩
 ·simp only [List.cons.injEq,and_true] at e0 hcs
  subst e0 hcs
  simp only [if_true] at hz
  have hwf:∀ z ∈ zs,0≤z∧z≤4294967295:=fun z hz=>by
   have:=hwz z hz
   simp [Lit.wf,IntKind.min,IntKind.max,IntKind.signed,IntKind.bits] at this
   omega
  refine ⟨⟨neg,some a,len,cap⟩,(zs.take len).map Int.toNat,rfl,rfl,?_,hl,?_,?_,?_⟩
  ·show _=len
   rw [List.length_map,List.length_take]; omega
  ·simp only [maxLen] at hm; omega
  ·intro d hd
   obtain ⟨z,hz1,rfl⟩:=List.mem_map.1 hd
   have:=hwf z (List.mem_of_mem_take hz1)
   omega
  ·intro k d hk
   refine ⟨rfl,fun G w hw=>?_⟩
   rw [List.getElem?_map] at hk
   obtain ⟨z,hz1,hz2⟩:∃ z,(zs.take len)[k]?=some z∧z.toNat=d:=by
    cases hh:(zs.take len)[k]? with
    | none=>rw [hh] at hk; cases hk
    | some z=>rw [hh] at hk; exact ⟨z,rfl,by simpa using hk⟩
   rw [List.getElem?_take] at hz1
   split at hz1
   ·have hkl:=(List.getElem?_eq_some_iff.1 hz1).1
    have hc:=hcell k hkl
    have hr:=hwf z (List.mem_of_getElem? hz1)
    have e:zs.getD k 0=z:=by simp [List.getD,hz1]
    rw [e] at hc
    have e2:z=(d:Int):=by omega
    rw [e2] at hc
    simp only [elt,Option.getD_some]
    exact hw.cellU (QaH hc)
   ·cases hz1
theorem Qgp {f:Func} {s:ChangeSpec} {apart fresh handsOn:Bool} {W W':World} {args:Array Value} {ds gs:List (DataW H)} {before pa:List MemPlace}
  (hW:DataW.Whole enc Tryz.prog f.params.toList s.vars apart W args.toList ds gs before) (hr:f.resultTypes = #[4]) (hres:(s.fn H (ds++gs)).results=[.lit (.bool true)]) (hv:s.vars=[]) (hvr:(s.fn H (ds++gs)).vars=[])
  (hargs:DataW.TrodAll enc Tryz.prog W' 0 (fun b=>decide (b < W.heap.size)) true f.params.toList args.toList (s.fn H (ds++gs)).args pa) (hb:Below W.heap.size W W') :
  s.post enc Tryz.prog f apart fresh handsOn false W args (.bool true) W':=by
 refine ⟨ds,gs,before,[],pa,[],hW,?_,hargs,?_,hb.frame _,fun h=>by cases h⟩
 ·rw [hres,hr]
  exact trodAll_mk1 (shut_bool Tryz.underlying4 true)
 ·rw [hv,hvr]; rfl
end
end Go.Proofs.YthnnlgjlhnmhnaaGreat

/- From a law's contract to its row: fractions and intervals as arguments. -/
namespace Go.Proofs.YthnnlgjlhnmhnaaGreat
open Go.Hp Go.ChangeShapes Go.WideShapes Go.ChangeAt Go.RowKit Go.Joins
theorem arr4 (T:Array Value) (h:T.size=4):∃ a b c d:Value,T = #[a,b,c,d]:=by
 obtain ⟨l⟩:=T
 match l,h with
 | [a,b,c,d],_=>exact ⟨a,b,c,d,rfl⟩
theorem cellsQ:Tryz.prog.cellsOf 48=4:=by kernel_rfl
section
variable {H:Type} {enc:TypeId × Value→H}
theorem QgA {W:World} {fuel:Nat} {c0 c1 c2 c3:Value} {y:DataW H × List MemPlace} (h:DataW.trod enc Tryz.prog W 0 (fun _=>true) true fuel 48 [c0,c1,c2,c3]=some y) :
  ∃ (x:QV) (q:Rat),c0 = .bool x.num.neg∧c1 = .slice x.num.p x.num.n x.num.c∧c2 = .bool x.den.neg∧c3 = .slice x.den.p x.den.n x.den.c∧x.rep (UW W) [] q:=by
 obtain ⟨y0,y1,m,_,_,h0,h1⟩:=trod_struct2 Tryz.underlying48 h
 simp only [cellsI,List.drop_zero,List.take_succ_cons,List.take_zero,List.drop_succ_cons] at h0 h1
 obtain ⟨x,l,rfl,rfl,hd⟩:=Qce h0
 obtain ⟨z,k,rfl,rfl,he⟩:=Qce h1
 exact ⟨⟨x,z⟩,_,rfl,rfl,rfl,rfl,_,_,⟨l,hd,rfl⟩,⟨k,he,rfl⟩,rfl⟩
end
end Go.Proofs.YthnnlgjlhnmhnaaGreat

/- From a law's contract to its row: matrices and rows of fractions as arguments. -/
namespace Go.Proofs.YthnnlgjlhnmhnaaGreat
open Go.Hp Go.ChangeShapes Go.WideShapes Go.ChangeAt Go.RowKit Go.Joins
section
variable {H:Type} {enc:TypeId × Value→H}
end
end Go.Proofs.YthnnlgjlhnmhnaaGreat

/- From a law's contract to its row: machine integers, lists of integers, matrices of both as arguments. -/
namespace Go.Proofs.YthnnlgjlhnmhnaaGreat
open Go.Hp Go.ChangeShapes Go.WideShapes Go.ChangeAt Go.RowKit Go.Joins
def Xz (U:UH) (v:Value) (z:Int):Prop:=∃ x:IV,v=x.v∧x.rep U [] z
theorem Qht:Kept Xz:=fun _ _ _ _ hU ⟨x,h1,h2⟩=>⟨x,h1,h2.up hU (List.Sublist.refl _)⟩
instance:KeptC Xz:=⟨Qht⟩
structure RawO {α:Type} (ok:UH→Value→α→Prop) (s:Nat) (U:UH) (v:Value) (r c:Int) (n:Nat) (f:Nat→α):Prop where
 rows : -9223372036854775808≤r∧r≤9223372036854775807
 cols : -9223372036854775808≤c∧c≤9223372036854775807
 num:n≤9223372036854775807
 elt:∃ a,v = .agg #[.int .i64 r,.int .i64 c,a]∧Ls ok s n U [] a f
section
variable {H:Type} {enc:TypeId × Value→H}
theorem Qdo {W:World} {fuel:Nat} {c0:Value} {y:DataW H × List MemPlace} (h:DataW.trod enc Tryz.prog W 0 (fun _=>true) true fuel 22 [c0]=some y) :
  ∃ (p:Option Addr) (n c:Nat) (vs:List Value) (f:Nat→Int),c0 = .slice p n c∧n≤c∧c≤9223372036854775807∧RowAt (UW W) [] 1 p n vs∧El Vz (UW W) vs f:=by
 rcases Go.Deep.open_slice Tryz.underlying22 h with ⟨hcs,-⟩ | ⟨a,len,cap,m,k,D,Pl,hcs,-,hl,hm,hmm,-,hx⟩
 ·simp only [List.cons.injEq,and_true] at hcs
  subst hcs
  exact ⟨none,0,0,[],fun _=>0,rfl,Nat.le_refl 0,by omega,RowAt.nil,El.nil⟩
 ·simp only [List.cons.injEq,and_true] at hcs
  subst hcs
  simp only [if_true] at hmm
  subst hmm
  have k1:Tryz.prog.cellsOf 3=1:=by kernel_rfl
  have each:∀ i,i < len→∃ z:Int,(-9223372036854775808≤z∧z≤9223372036854775807)∧W.cell? (a.add (i*1))=some (.int .i64 z):=by
   intro i hi
   obtain ⟨cs',h1,h2⟩:=hx i (by omega)
   rw [k1] at h1
   obtain ⟨-,-,hcell⟩:=World.cells?_some h1
   obtain ⟨z,rfl,-,wz⟩:=DataW.trod_int Tryz.underlying3 h2
   have h7:=hcell 0 (by decide)
   exact ⟨z,ya wz,by simpa [yC] using h7⟩
  have inh:Inhabited Int:=⟨0⟩
  obtain ⟨q,hq⟩:=Go.Deep.choose_lt each
  refine ⟨some a,len,m,(List.range len).map fun i => .int .i64 (q i),q,rfl,hl,by simpa [maxLen] using hm,⟨by simp,fun v hv=>?_,fun i v hi=>?_⟩,fun i v hi=>?_⟩
  ·obtain ⟨i,-,rfl⟩:=List.mem_map.1 hv; rfl
  ·rw [List.getElem?_map] at hi
   obtain ⟨i',hi1,rfl⟩:=Option.map_eq_some_iff.1 hi
   obtain ⟨hlt,hie⟩:=List.getElem?_eq_some_iff.1 hi1
   simp only [List.length_range] at hlt
   simp only [List.getElem_range] at hie
   subst hie
   refine ⟨rfl,fun j x hx' G w hw=>?_⟩
   cases j with
   | zero=>cases hx'; exact hw.cellU (QaH (hq i hlt).2)
   | succ j=>simp [Value.cells] at hx'
  ·rw [List.getElem?_map] at hi
   obtain ⟨i',hi1,rfl⟩:=Option.map_eq_some_iff.1 hi
   obtain ⟨hlt,hie⟩:=List.getElem?_eq_some_iff.1 hi1
   simp only [List.length_range] at hlt
   simp only [List.getElem_range] at hie
   subst hie
   exact ⟨rfl,(hq i hlt).1⟩
end
end Go.Proofs.YthnnlgjlhnmhnaaGreat

/- From a law's contract to its row: even forms, binary forms, lists of machine integers as arguments. -/
namespace Go.Proofs.YthnnlgjlhnmhnaaGreat
open Go.Hp Go.ChangeShapes Go.WideShapes Go.ChangeAt Go.RowKit Go.Joins
structure RawG (U:UH) (v:Value) (r:Int) (n:Nat) (f:Nat→Int):Prop where
 rank : -9223372036854775808≤r∧r≤9223372036854775807
 num:n≤9223372036854775807
 elt:∃ a,v = .agg #[.int .i64 r,a]∧Ls Vz 1 n U [] a f
structure RawQ (v:Value) (a b c:Int):Prop where
 ra : -9223372036854775808≤a∧a≤9223372036854775807
 rb : -9223372036854775808≤b∧b≤9223372036854775807
 rc : -9223372036854775808≤c∧c≤9223372036854775807
 elt:v = .agg #[.int .i64 a,.int .i64 b,.int .i64 c]
section
variable {H:Type} {enc:TypeId × Value→H}
set_option maxRecDepth 100000 in
theorem Qhj {W:World} {fuel:Nat} {c0 c1:Value} {y:DataW H × List MemPlace} (hf:DataW.trod enc Tryz.prog W 0 (fun _=>true) true fuel 24 [c0,c1]=some y):∃ (r:Int) (n:Nat) (f:Nat→Int),RawG (UW W) (.agg #[c0,c1]) r n f:=by
 obtain ⟨y0,y1,m,_,_,h0,h1⟩:=trod_struct2 Tryz.underlying24 hf
 have k0:Tryz.prog.cellsOf 3=1:=by kernel_rfl
 have k1:Tryz.prog.cellsOf 22=1:=by kernel_rfl
 simp only [k0,k1,List.drop_zero,List.take_succ_cons,List.take_zero,List.drop_succ_cons] at h0 h1
 obtain ⟨r,e0,-,w0⟩:=DataW.trod_int Tryz.underlying3 h0
 obtain ⟨p,n,cc,vs,f,rfl,hn,hc,hr,he⟩:=Qdo h1
 simp only [List.cons.injEq,and_true] at e0
 subst e0
 exact ⟨r,n,f,ya w0,by omega,_,rfl,p,cc,vs,rfl,hn,hr,he⟩
end
end Go.Proofs.YthnnlgjlhnmhnaaGreat
