/- Texts of this seat's own, merged: each begins with its own remark. -/
import Derived.Test.YthnnlgjlhnmhnaaGreatM2
import Derived.Test.YthnnlgjlhnmhnaaGreatM3
import Derived.Test.YthnnlgjlhnmhnaaGreatM4
import Derived.Test.YthnnlgjlhnmhnaaGreatM5
/- Walks of layer 1: the decimal form of an integer. -/
namespace Go.Proofs.YthnnlgjlhnmhnaaGreat
open Go.Hp
variable {G:World} {U:UH} {M:MH}
end Go.Proofs.YthnnlgjlhnmhnaaGreat

/- Walks of the laws' own helpers: awake, long. -/
namespace Go.Proofs.YthnnlgjlhnmhnaaGreat
open Go.Hp
variable {G:World} {U:UH} {M:MH}
structure Ivs (U:UH) (M:MH) (b:Nat) (xs:List IV):Prop where
 get:∀ (k:Nat) (x:IV),xs[k]?=some x→∀ (G:World) (w:World),Mem G U M w→w.cell? ⟨b,k*2+1,none⟩=some (.slice x.p x.n x.c)
 getN:∀ (k:Nat) (x:IV),xs[k]?=some x→∀ (G:World) (w:World),Mem G U M w→w.cell? ⟨b,k*2,none⟩=some (.bool x.neg)
end Go.Proofs.YthnnlgjlhnmhnaaGreat

/- The law on common divisors. -/
namespace Go.Proofs.YthnnlgjlhnmhnaaGreat
open Go.Hp
variable {G:World} {U:UH} {M:MH}
end Go.Proofs.YthnnlgjlhnmhnaaGreat
