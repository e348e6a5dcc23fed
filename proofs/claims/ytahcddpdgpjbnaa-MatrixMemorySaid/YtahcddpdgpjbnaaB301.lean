/- Matrices whose elements lie in the caller's memory. -/
import Derived.Test.YtahcddpdgpjbnaaM22
namespace Go.Proofs.Ytahcddpdgpjbnaa
open Go.Hp
variable {G:World} {U U':UH} {M M':MH}
def Wm (M:MH) (b:Nat) (U:UH) (v:Value) (q:Rat):Prop:=∃ x:QV,v=x.v∧x.rep U M q∧x.le b
theorem Wm.up {b:Nat} {v:Value} {q:Rat} (h:Wm M b U v q) (hU:ULe U U') (hM:M.Sublist M'):Wm M' b U' v q:=by
 obtain ⟨x,h1,h2,h3⟩:=h
 exact ⟨x,h1,h2.up hU hM,h3⟩
def Vx (M:MH) (b r c:Nat) (U:UH) (v:Value) (A:Nat→Nat→Rat):Prop:=∃ a,v = .agg #[.int .i64 (r:Int),.int .i64 (c:Int),a]∧Ls (Wm M b) 4 (r*c) U M a (fl c A)
theorem Vx.upx {b r c:Nat} {v:Value} {A:Nat→Nat→Rat} (h:Vx M b r c U v A) (hU:ULe U U') (hM:M.Sublist M'):Vx M' b r c U' v A:=by
 obtain ⟨a,h1,p,cc,vs,h2,h0,h3,h4⟩:=h
 exact ⟨a,h1,p,cc,vs,h2,h0,h3.up hU hM,fun k x hk=>(h4 k x hk).up hU hM⟩
theorem Vx.sz {b r c:Nat} {v:Value} {A:Nat→Nat→Rat} (h:Vx M b r c U v A) (hb:1≤b) {i j:Nat} (hi:i < r) (hj:j < c):Szq (A i j) b:=by
 obtain ⟨a,h1,p,cc,vs,h2,h0,h3,h4⟩:=h
 obtain ⟨x,hx⟩:=h3.at (vG hi hj)
 obtain ⟨y,-,h5,h6⟩:=h4 _ _ hx
 have:=h5.sz h6 hb
 rwa [qI hj] at this
theorem Vx.of {b r c:Nat} {v:Value} {A:Nat→Nat→Rat} (h:Vm (Wq b) r c U v A):Vx M b r c U v A:=by
 obtain ⟨a,h1,p,cc,vs,h2,h0,h3,h4⟩:=h
 refine ⟨a,h1,p,cc,vs,h2,h0,h3.up (ULe.refl _) (List.nil_sublist _),fun k x hk=>?_⟩
 obtain ⟨y,e1,e2,e3⟩:=h4 k x hk
 exact ⟨y,e1,e2.up (ULe.refl _) (List.nil_sublist _),e3⟩
end Go.Proofs.Ytahcddpdgpjbnaa
