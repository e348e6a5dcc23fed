/- Texts of this seat's own, merged: each begins with its own remark. -/
import Derived.Test.YthnnlgjlhnmhnaaGreatM19
import Derived.Test.YthnnlgjlhnmhnaaGreatM15
/- Walks of the reference of layer 9: elimination. -/
namespace Go.Proofs.YthnnlgjlhnmhnaaGreat
open Go.Hp
variable {G:World} {U:UH} {M:MH}
def Vi (_:UH) (v:Value) (k:Nat):Prop:=v = .int .i64 (k:Int)
theorem Qit:Kept Vi:=fun _ _ _ _ _ h=>h
theorem Qja {n c S T:Nat} {f g:Nat→Rat} (hs:∀ j,j < n→Szq (f j) S) (hs2:∀ j,j < n→Szq (g j) T) (hc:c < n) {j:Nat} (hj:j < n):Szq (La.clr f g c j) (S+(S+T)+1) :=
 (hs j hj).add ((hs c hc).neg.mul (hs2 j hj))
end Go.Proofs.YthnnlgjlhnmhnaaGreat

/- Walks of the reference of layer 9: echelon forms, ranks, transposes, traces, sums. -/
namespace Go.Proofs.YthnnlgjlhnmhnaaGreat
open Go.Hp
variable {G:World} {U:UH} {M:MH}
structure EchOf (m n r:Nat) (A R:Nat→Nat→Rat) (p:Nat→Nat):Prop where
 ech:La.Ech r n R p
 same:La.Same r m n R A
 le:r≤m
end Go.Proofs.YthnnlgjlhnmhnaaGreat
