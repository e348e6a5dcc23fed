/- From a law's contract to its row: matrices and rows of fractions as arguments. -/
import Derived.Test.YtahcddpdgpjbnaaRq
import Derived.Test.YtahcddpdgpjbnaaM35
import Derived.Deep.Slices
import Derived.Deep.Strs
namespace Go.Proofs.Ytahcddpdgpjbnaa
open Go.Hp Go.ChangeShapes Go.WideShapes Go.ChangeAt Go.RowKit Go.Joins
theorem arr3 (T:Array Value) (h:T.size=3):∃ a b c:Value,T = #[a,b,c]:=by
 obtain ⟨l⟩:=T
 match l,h with
 | [a,b,c],_=>exact ⟨a,b,c,rfl⟩
theorem cellsM:Try.prog.cellsOf 24=3:=by kernel_rfl
section
variable {H:Type} {enc:TypeId × Value→H}
theorem QbU {W:World} {fuel:Nat} {c0:Value} {y:DataW H × List MemPlace} (h:DataW.trod enc Try.prog W 0 (fun _=>true) true fuel 22 [c0]=some y) :
  ∃ (p:Option Addr) (n c:Nat) (vs:List Value) (f:Nat→Rat),c0 = .slice p n c∧n≤c∧c≤9223372036854775807∧RowAt (UW W) [] 4 p n vs∧El Xq (UW W) vs f:=by
 rcases Go.Deep.open_slice Try.underlying22 h with ⟨hcs,-⟩ | ⟨a,len,cap,m,k,D,Pl,hcs,-,hl,hm,hmm,-,hx⟩
 ·simp only [List.cons.injEq,and_true] at hcs
  subst hcs
  exact ⟨none,0,0,[],fun _=>0,rfl,Nat.le_refl 0,by omega,RowAt.nil,El.nil⟩
 ·simp only [List.cons.injEq,and_true] at hcs
  subst hcs
  simp only [if_true] at hmm
  subst hmm
  have each:∀ i,i < len→∃ q:QV × Rat,q.1.rep (UW W) [] q.2∧∀ j x,q.1.v.cells.toList[j]?=some x→W.cell? (a.add (i*4+j))=some x:=by
   intro i hi
   obtain ⟨cs',h1,h2⟩:=hx i (by omega)
   rw [cellsQ] at h1
   obtain ⟨-,hlen,hcell⟩:=World.cells?_some h1
   match cs',hlen with
   | [c0,c1,c2,c3],_ =>
    obtain ⟨x,q,rfl,rfl,rfl,rfl,hq⟩:=QcZ h2
    refine ⟨(x,q),hq,fun j u hu=>?_⟩
    have hj:j < 4:=(List.getElem?_eq_some_iff.1 hu).1
    rw [← VL,hcell j hj]
    exact hu
  have inh:Inhabited (QV × Rat):=⟨(zeroQV,0)⟩
  obtain ⟨q,hq⟩:=Go.Deep.choose_lt each
  refine ⟨some a,len,m,(List.range len).map fun i=>(q i).1.v,fun i=>(q i).2,rfl,hl,by simpa [maxLen] using hm,⟨by simp,fun v hv=>?_,fun i v hi=>?_⟩,fun i v hi=>?_⟩
  ·obtain ⟨i,-,rfl⟩:=List.mem_map.1 hv; rfl
  ·rw [List.getElem?_map] at hi
   obtain ⟨i',hi1,rfl⟩:=Option.map_eq_some_iff.1 hi
   obtain ⟨hlt,hie⟩:=List.getElem?_eq_some_iff.1 hi1
   simp only [List.length_range] at hlt
   simp only [List.getElem_range] at hie
   subst hie
   exact ⟨rfl,fun j x hx' G w hw=>hw.cellU (QaU ((hq i hlt).2 j x hx'))⟩
  ·rw [List.getElem?_map] at hi
   obtain ⟨i',hi1,rfl⟩:=Option.map_eq_some_iff.1 hi
   obtain ⟨hlt,hie⟩:=List.getElem?_eq_some_iff.1 hi1
   simp only [List.length_range] at hlt
   simp only [List.getElem_range] at hie
   subst hie
   exact ⟨_,rfl,(hq i hlt).1⟩
theorem Qdd {W:World} {fuel:Nat} {c0 c1 c2:Value} {y:DataW H × List MemPlace} (h:DataW.trod enc Try.prog W 0 (fun _=>true) true fuel 24 [c0,c1,c2]=some y) :
  ∃ (r c:Int) (n:Nat) (f:Nat→Rat),Raw (UW W) (.agg #[c0,c1,c2]) r c n f:=by
 obtain ⟨y0,y1,y2,m,_,_,h0,h1,h2⟩:=Go.Deep.trod_struct3 Try.underlying24 h
 have k0:Try.prog.cellsOf 3=1:=by kernel_rfl
 have k1:Try.prog.cellsOf 22=1:=by kernel_rfl
 simp only [k0,k1,List.drop_zero,List.take_succ_cons,List.take_zero,List.drop_succ_cons] at h0 h1 h2
 obtain ⟨r,e0,-,w0⟩:=DataW.trod_int Try.underlying3 h0
 obtain ⟨c,e1,-,w1⟩:=DataW.trod_int Try.underlying3 h1
 obtain ⟨p,n,cc,vs,f,rfl,hn,hc,hr,he⟩:=QbU h2
 simp only [List.cons.injEq,and_true] at e0 e1
 subst e0 e1
 exact ⟨r,c,n,f,jT w0,jT w1,by omega,_,rfl,p,cc,vs,rfl,hn,hr,he⟩
set_option maxRecDepth 100000 in
theorem Qbn {W:World} {r:Reach} {b0:Nat} {v:Value} {d:DataW H} {p:List MemPlace} (hv:Value.okWide Try.prog W r b0 24 v)
  (h:DataW.Trod enc Try.prog W 0 (fun _=>true) true 24 v d p):∃ (r c:Int) (n:Nat) (f:Nat→Rat),Raw (UW W) v r c n f:=by
 obtain ⟨cs,rfl,hsz⟩:=okWide_struct Try.underlying24 hv
 obtain ⟨c0,c1,c2,rfl⟩:=arr3 _ (hsz.trans cellsM)
 obtain ⟨fuel,hf⟩:=h
 exact Qdd hf
end
end Go.Proofs.Ytahcddpdgpjbnaa
