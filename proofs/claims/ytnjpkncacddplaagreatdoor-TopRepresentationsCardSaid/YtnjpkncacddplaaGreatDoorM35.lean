/- Texts of this seat's own, merged: each begins with its own remark. -/
import Derived.Test.YtnjpkncacddplaaGreatDoorM23
import Derived.Test.YtnjpkncacddplaaGreatDoorM17
/- Walks of the statements' helpers: rows of integers, comparisons of rows and matrices. -/
namespace Go.Proofs.YtnjpkncacddplaaGreatDoor
open Go.Hp
variable {G:World} {U U':UH} {M M':MH}
def Vz (_:UH) (v:Value) (z:Int):Prop:=v = .int .i64 z ∧ -9223372036854775808≤z∧z≤9223372036854775807
def Lz (r c:Nat) (U:UH) (M:MH) (v:Value) (Z:Nat→Nat→Int):Prop:=Ls (fun U v g=>Ls Vz 1 c U M v g) 1 r U M v Z
theorem QfS:Kept Vz:=fun _ _ _ _ _ h=>h
end Go.Proofs.YtnjpkncacddplaaGreatDoor

/- Walks of the helpers of layer 9's statements: are matrices small? -/
namespace Go.Proofs.YtnjpkncacddplaaGreatDoor
open Go.Hp
variable {G:World} {U U':UH} {M M':MH}
def Xq (U:UH) (v:Value) (q:Rat):Prop:=∃ x:QV,v=x.v∧x.rep U [] q
theorem Qgc:Kept Xq:=fun _ _ _ _ hU ⟨x,h1,h2⟩=>⟨x,h1,h2.up hU (List.Sublist.refl _)⟩
structure Raw (U:UH) (v:Value) (r c:Int) (n:Nat) (f:Nat→Rat):Prop where
 rows : -9223372036854775808≤r∧r≤9223372036854775807
 cols : -9223372036854775808≤c∧c≤9223372036854775807
 num:n≤9223372036854775807
 elt:∃ a,v = .agg #[.int .i64 r,.int .i64 c,a]∧Ls Xq 4 n U [] a f
theorem Raw.up {v:Value} {r c:Int} {n:Nat} {f:Nat→Rat} (h:Raw U v r c n f) (hU:ULe U U'):Raw U' v r c n f:=by
 obtain ⟨a,h1,h2⟩:=h.elt
 exact ⟨h.rows,h.cols,h.num,a,h1,h2.up Qgc hU (List.Sublist.refl _)⟩
def Lit (most:Nat) (U:UH) (v:Value) (r c:Int) (n:Nat) (f:Nat→Rat):Prop :=
 n≤most*most∧(Vld r c n→r≤most∧c≤most)∧∃ a,v = .agg #[.int .i64 r,.int .i64 c,a]∧Ls (Wq 1) 4 n U [] a f
end Go.Proofs.YtnjpkncacddplaaGreatDoor

/- Walks of the helpers of layer 9's statements: awake. -/
namespace Go.Proofs.YtnjpkncacddplaaGreatDoor
open Go.Hp
variable {G:World} {U U':UH} {M M':MH}
abbrev zz (ls:List (List Int)):Nat→Nat→Rat:=fun i j=>(((ls.getD i []).getD j 0:Int):Rat)
end Go.Proofs.YtnjpkncacddplaaGreatDoor
