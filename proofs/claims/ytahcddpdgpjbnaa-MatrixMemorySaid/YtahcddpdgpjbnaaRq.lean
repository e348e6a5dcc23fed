/- From a law's contract to its row: fractions and intervals as arguments. -/
import Derived.Test.YtahcddpdgpjbnaaR
import Derived.Test.YtahcddpdgpjbnaaM18
namespace Go.Proofs.Ytahcddpdgpjbnaa
open Go.Hp Go.ChangeShapes Go.WideShapes Go.ChangeAt Go.RowKit Go.Joins
theorem cellsQ:Try.prog.cellsOf 41=4:=by kernel_rfl
section
variable {H:Type} {enc:TypeId × Value→H}
theorem QcZ {W:World} {fuel:Nat} {c0 c1 c2 c3:Value} {y:DataW H × List MemPlace} (h:DataW.trod enc Try.prog W 0 (fun _=>true) true fuel 41 [c0,c1,c2,c3]=some y) :
  ∃ (x:QV) (q:Rat),c0 = .bool x.num.neg∧c1 = .slice x.num.p x.num.n x.num.c∧c2 = .bool x.den.neg∧c3 = .slice x.den.p x.den.n x.den.c∧x.rep (UW W) [] q:=by
 obtain ⟨y0,y1,m,_,_,h0,h1⟩:=trod_struct2 Try.underlying41 h
 simp only [cellsI,List.drop_zero,List.take_succ_cons,List.take_zero,List.drop_succ_cons] at h0 h1
 obtain ⟨x,l,rfl,rfl,hd⟩:=vn h0
 obtain ⟨z,k,rfl,rfl,he⟩:=vn h1
 exact ⟨⟨x,z⟩,_,rfl,rfl,rfl,rfl,_,_,⟨l,hd,rfl⟩,⟨k,he,rfl⟩,rfl⟩
end
end Go.Proofs.Ytahcddpdgpjbnaa
