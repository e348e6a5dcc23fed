/- Texts of this seat's own, merged: each begins with its own remark. -/
import Derived.Test.YtnjpkncacddplaaGreatM2
import Derived.ProofKit
import Derived.Lib.SmallJoins
import Derived.Carry
import Derived.Test.YtnjpkncacddplaaGreatM18
import Derived.Test.YtnjpkncacddplaaGreatM131
import Derived.Deep.Slices
import Derived.Deep.Strs
import Derived.Test.YtnjpkncacddplaaGreatVz
import Derived.Test.YtnjpkncacddplaaGreatRows
import Derived.Test.YtnjpkncacddplaaGreatM98
import Derived.LaidLaws
import Derived.LaidHandle
/- From a law's contract to its row: integers as arguments; what holds behind the call. -/
namespace Go.Proofs.YtnjpkncacddplaaGreat
open Go.Hp Go.ChangeShapes Go.WideShapes Go.ChangeAt Go.RowKit Go.Joins
theorem Tryz.own:ownKnob Tryz.prog.godebug=none:=by kernel_rfl
theorem Tryz.laidOut:laidOutB Tryz.prog=true:=by kernel_rfl
def UW (W:World):UH:=fun k=>W.heap[k]?
theorem QeZ (W:World):Mem W (UW W) [] W:=⟨rfl,rfl,rfl,fun _ _ h=>h,fun _ h=>(by cases h),List.Pairwise.nil⟩
theorem QiK {W:World} {a:Addr} {v:Value} (h:W.cell? a=some v):(UW W).cell? a=some v:=by
 unfold UH.cell? UW
 unfold World.cell? at h
 split at h<;>simp_all
theorem QaG {W W':World} {U':UH} {M:MH} (hU:ULe (UW W) U') (h:Mem W U' M W'):Below W.heap.size W W':=by
 have hb:∀ k,k < W.heap.size→W'.heap[k]?=W.heap[k]?:=fun k hk=>by
  have h1:=Array.getElem?_eq_getElem hk
  rw [h1]
  exact h.old _ _ (hU _ _ h1)
 refine ⟨h.os,h.tape,h.output,?_,hb⟩
 rcases Nat.lt_or_ge W'.heap.size W.heap.size with hlt | hge
 ·have h1:=hb _ hlt
  rw [Array.getElem?_eq_getElem hlt] at h1
  simp at h1
 ·exact hge
theorem QeM {W:World} {f:Nat} {args:List Value} (h:Ct Tryz.prog f args W (UW W) [] fun v _ _=>v = .bool true) :
  Calls Tryz.prog f args.toArray W fun e W'=>e = .returned (.bool true)∧Below W.heap.size W W' :=
 (h.calls W (QeZ W)).mono fun _ _ ⟨_,_,_,h1,h2,h3,h4⟩=>⟨by rw [h1,h4],QaG h2 h3⟩
theorem jI {n:Int} (h:(Lit.int .i64 n).wf=true) : -9223372036854775808≤n∧n≤9223372036854775807:=by
 simp [Lit.wf,IntKind.min,IntKind.max,IntKind.signed,IntKind.bits] at h
 omega
section
variable {H:Type} {enc:TypeId × Value→H}
theorem QgY {f:Func} {s:ChangeSpec} {apart fresh handsOn:Bool} {W W':World} {args:Array Value} {ds gs:List (DataW H)} {before pa:List MemPlace}
  (hW:DataW.Whole enc Tryz.prog f.params.toList s.vars apart W args.toList ds gs before) (hr:f.resultTypes = #[4]) (hres:(s.fn H (ds++gs)).results=[.lit (.bool true)]) (hv:s.vars=[]) (hvr:(s.fn H (ds++gs)).vars=[])
  (hargs:DataW.TrodAll enc Tryz.prog W' 0 (fun b=>decide (b < W.heap.size)) true f.params.toList args.toList (s.fn H (ds++gs)).args pa) (hb:Below W.heap.size W W') :
  s.post enc Tryz.prog f apart fresh handsOn false W args (.bool true) W':=by
 refine ⟨ds,gs,before,[],pa,[],hW,?_,hargs,?_,hb.frame _,fun h=>by cases h⟩
 ·rw [hres,hr]
  exact trodAll_mk1 (shut_bool Tryz.underlying4 true)
 ·rw [hv,hvr]; rfl
end
end Go.Proofs.YtnjpkncacddplaaGreat

/- From a law's contract to its row: machine integers, lists of integers, matrices of both as arguments. -/
namespace Go.Proofs.YtnjpkncacddplaaGreat
open Go.Hp Go.ChangeShapes Go.WideShapes Go.ChangeAt Go.RowKit Go.Joins
def Xz (U:UH) (v:Value) (z:Int):Prop:=∃ x:IV,v=x.v∧x.rep U [] z
theorem QhN:Kept Xz:=fun _ _ _ _ hU ⟨x,h1,h2⟩=>⟨x,h1,h2.up hU (List.Sublist.refl _)⟩
instance:KeptC Xz:=⟨QhN⟩
structure RawO {α:Type} (ok:UH→Value→α→Prop) (s:Nat) (U:UH) (v:Value) (r c:Int) (n:Nat) (f:Nat→α):Prop where
 rows : -9223372036854775808≤r∧r≤9223372036854775807
 cols : -9223372036854775808≤c∧c≤9223372036854775807
 num:n≤9223372036854775807
 elt:∃ a,v = .agg #[.int .i64 r,.int .i64 c,a]∧Ls ok s n U [] a f
theorem RawO.up {U U':UH} {α:Type} {ok:UH→Value→α→Prop} [KeptC ok] {s:Nat} {v:Value} {r c:Int} {n:Nat} {f:Nat→α} (h:RawO ok s U v r c n f) (hU:ULe U U'):RawO ok s U' v r c n f:=by
 obtain ⟨a,h1,h2⟩:=h.elt
 exact ⟨h.rows,h.cols,h.num,a,h1,h2.up KeptC.out hU (List.Sublist.refl _)⟩
section
variable {H:Type} {enc:TypeId × Value→H}
theorem QdA {W:World} {fuel:Nat} {c0:Value} {y:DataW H × List MemPlace} (h:DataW.trod enc Tryz.prog W 0 (fun _=>true) true fuel 22 [c0]=some y) :
  ∃ (p:Option Addr) (n c:Nat) (vs:List Value) (f:Nat→Int),c0 = .slice p n c∧n≤c∧c≤9223372036854775807∧RowAt (UW W) [] 1 p n vs∧El Vz (UW W) vs f:=by
 rcases Go.Deep.open_slice Tryz.underlying22 h with ⟨hcs,-⟩ | ⟨a,len,cap,m,k,D,Pl,hcs,-,hl,hm,hmm,-,hx⟩
 ·simp only [List.cons.injEq,and_true] at hcs
  subst hcs
  exact ⟨none,0,0,[],fun _=>0,rfl,Nat.le_refl 0,by omega,RowAt.nil,El.nil⟩
 ·simp only [List.cons.injEq,and_true] at hcs
  subst hcs
  simp only [if_true] at hmm
  subst hmm
  have k1:Tryz.prog.cellsOf 3=1:=by kernel_rfl
  have each:∀ i,i < len→∃ z:Int,(-9223372036854775808≤z∧z≤9223372036854775807)∧W.cell? (a.add (i*1))=some (.int .i64 z):=by
   intro i hi
   obtain ⟨cs',h1,h2⟩:=hx i (by omega)
   rw [k1] at h1
   obtain ⟨-,-,hcell⟩:=World.cells?_some h1
   obtain ⟨z,rfl,-,wz⟩:=DataW.trod_int Tryz.underlying3 h2
   have h7:=hcell 0 (by decide)
   exact ⟨z,jI wz,by simpa [QaW] using h7⟩
  have inh:Inhabited Int:=⟨0⟩
  obtain ⟨q,hq⟩:=Go.Deep.choose_lt each
  refine ⟨some a,len,m,(List.range len).map fun i => .int .i64 (q i),q,rfl,hl,by simpa [maxLen] using hm,⟨by simp,fun v hv=>?_,fun i v hi=>?_⟩,fun i v hi=>?_⟩
  ·obtain ⟨i,-,rfl⟩:=List.mem_map.1 hv; rfl
  ·rw [List.getElem?_map] at hi
   obtain ⟨i',hi1,rfl⟩:=Option.map_eq_some_iff.1 hi
   obtain ⟨hlt,hie⟩:=List.getElem?_eq_some_iff.1 hi1
   simp only [List.length_range] at hlt
   simp only [List.getElem_range] at hie
   subst hie
   refine ⟨rfl,fun j x hx' G w hw=>?_⟩
   cases j with
   | zero=>cases hx'; exact hw.cellU (QiK (hq i hlt).2)
   | succ j=>simp [Value.cells] at hx'
  ·rw [List.getElem?_map] at hi
   obtain ⟨i',hi1,rfl⟩:=Option.map_eq_some_iff.1 hi
   obtain ⟨hlt,hie⟩:=List.getElem?_eq_some_iff.1 hi1
   simp only [List.length_range] at hlt
   simp only [List.getElem_range] at hie
   subst hie
   exact ⟨rfl,(hq i hlt).1⟩
end
end Go.Proofs.YtnjpkncacddplaaGreat

/- From a law's contract to its row: even forms, binary forms, lists of machine integers as arguments. -/
namespace Go.Proofs.YtnjpkncacddplaaGreat
open Go.Hp Go.ChangeShapes Go.WideShapes Go.ChangeAt Go.RowKit Go.Joins
theorem arr2 (T:Array Value) (h:T.size=2):∃ a b:Value,T = #[a,b]:=by
 obtain ⟨l⟩:=T
 match l,h with
 | [a,b],_=>exact ⟨a,b,rfl⟩
structure RawG (U:UH) (v:Value) (r:Int) (n:Nat) (f:Nat→Int):Prop where
 rank : -9223372036854775808≤r∧r≤9223372036854775807
 num:n≤9223372036854775807
 elt:∃ a,v = .agg #[.int .i64 r,a]∧Ls Vz 1 n U [] a f
structure RawQ (v:Value) (a b c:Int):Prop where
 ra : -9223372036854775808≤a∧a≤9223372036854775807
 rb : -9223372036854775808≤b∧b≤9223372036854775807
 rc : -9223372036854775808≤c∧c≤9223372036854775807
 elt:v = .agg #[.int .i64 a,.int .i64 b,.int .i64 c]
section
variable {H:Type} {enc:TypeId × Value→H}
set_option maxRecDepth 100000 in
theorem QgO {W:World} {fuel:Nat} {c0 c1:Value} {y:DataW H × List MemPlace} (hf:DataW.trod enc Tryz.prog W 0 (fun _=>true) true fuel 26 [c0,c1]=some y):∃ (r:Int) (n:Nat) (f:Nat→Int),RawG (UW W) (.agg #[c0,c1]) r n f:=by
 obtain ⟨y0,y1,m,_,_,h0,h1⟩:=trod_struct2 Tryz.underlying26 hf
 have k0:Tryz.prog.cellsOf 3=1:=by kernel_rfl
 have k1:Tryz.prog.cellsOf 22=1:=by kernel_rfl
 simp only [k0,k1,List.drop_zero,List.take_succ_cons,List.take_zero,List.drop_succ_cons] at h0 h1
 obtain ⟨r,e0,-,w0⟩:=DataW.trod_int Tryz.underlying3 h0
 obtain ⟨p,n,cc,vs,f,rfl,hn,hc,hr,he⟩:=QdA h1
 simp only [List.cons.injEq,and_true] at e0
 subst e0
 exact ⟨r,n,f,jI w0,by omega,_,rfl,p,cc,vs,rfl,hn,hr,he⟩
set_option maxRecDepth 100000 in
theorem QiD {W:World} {r:Reach} {b0:Nat} {v:Value} {d:DataW H} {p:List MemPlace} (hv:Value.okWide Tryz.prog W r b0 26 v)
  (h:DataW.Trod enc Tryz.prog W 0 (fun _=>true) true 26 v d p):∃ (r:Int) (n:Nat) (f:Nat→Int),RawG (UW W) v r n f:=by
 have kS:Tryz.prog.cellsOf 26=2:=by kernel_rfl
 obtain ⟨cs,rfl,hsz⟩:=okWide_struct Tryz.underlying26 hv
 obtain ⟨c0,c1,rfl⟩:=arr2 _ (hsz.trans kS)
 obtain ⟨fuel,hf⟩:=h
 exact QgO hf
end
end Go.Proofs.YtnjpkncacddplaaGreat

/- Opener of an eta quotient. No condition. -/
namespace Go.Proofs.YtnjpkncacddplaaGreat
open Go.Hp Go.ChangeShapes Go.WideShapes Go.ChangeAt Go.RowKit Go.Joins
variable {H:Type} {enc:TypeId × Value→H}
set_option maxRecDepth 100000 in
theorem Qgp {W:World} {fuel:Nat} {c0 c1:Value} {y:DataW H × List MemPlace} (hf:DataW.trod enc Tryz.prog W 0 (fun _=>true) true fuel 24 [c0,c1]=some y):∃ (r:Int) (n:Nat) (f:Nat→Int),RawG (UW W) (.agg #[c0,c1]) r n f:=by
 obtain ⟨y0,y1,m,_,_,h0,h1⟩:=trod_struct2 Tryz.underlying24 hf
 have k0:Tryz.prog.cellsOf 3=1:=by kernel_rfl
 have k1:Tryz.prog.cellsOf 22=1:=by kernel_rfl
 simp only [k0,k1,List.drop_zero,List.take_succ_cons,List.take_zero,List.drop_succ_cons] at h0 h1
 obtain ⟨r,e0,-,w0⟩:=DataW.trod_int Tryz.underlying3 h0
 obtain ⟨p,n,cc,vs,f,rfl,hn,hc,hr,he⟩:=QdA h1
 simp only [List.cons.injEq,and_true] at e0
 subst e0
 exact ⟨r,n,f,jI w0,by omega,_,rfl,p,cc,vs,rfl,hn,hr,he⟩
set_option maxRecDepth 100000 in
theorem Qhy {W:World} {r:Reach} {b0:Nat} {v:Value} {d:DataW H} {p:List MemPlace} (hv:Value.okWide Tryz.prog W r b0 24 v)
  (h:DataW.Trod enc Tryz.prog W 0 (fun _=>true) true 24 v d p):∃ (r:Int) (n:Nat) (f:Nat→Int),RawG (UW W) v r n f:=by
 have kS:Tryz.prog.cellsOf 24=2:=by kernel_rfl
 obtain ⟨cs,rfl,hsz⟩:=okWide_struct Tryz.underlying24 hv
 obtain ⟨c0,c1,rfl⟩:=arr2 _ (hsz.trans kS)
 obtain ⟨fuel,hf⟩:=h
 exact Qgp hf
end Go.Proofs.YtnjpkncacddplaaGreat

/- The table that is laid: its cells. -/
namespace Go.Proofs.YtnjpkncacddplaaGreat
open Go.Hp Go.Gx Go.ChangeShapes Go.WideShapes Go.ChangeAt Go.RowKit Go.Joins
end Go.Proofs.YtnjpkncacddplaaGreat
