/- Texts of this seat's own, merged: each begins with its own remark. -/
import Derived.Test.YtnjpkncacddplaaGreatDoorM16
import Derived.Test.YtnjpkncacddplaaGreatDoorM2
import Derived.Test.YtnjpkncacddplaaGreatDoorM18
import Derived.Test.YtnjpkncacddplaaGreatDoorM10
import Derived.Test.YtnjpkncacddplaaGreatDoorM7
import Derived.Test.YtnjpkncacddplaaGreatDoorM4
import Derived.Test.YtnjpkncacddplaaGreatDoorM14
/- Walks of the statements' helpers: small integers and fractions. -/
namespace Go.Proofs.YtnjpkncacddplaaGreatDoor
open Go.Hp
variable {G:World} {U:UH} {M:MH}
theorem Own.bd {D:MH} {p:Option Addr} {n c:Nat} {l:List Nat} (h:Own D p n c l):Bd l:=by
 cases h with
 | nil=>intro d hd; cases hd
 | arr hn hc hm hb ht=>exact hb
end Go.Proofs.YtnjpkncacddplaaGreatDoor

/- Walks of the helpers of layer 2's statements: awake, long, none. -/
namespace Go.Proofs.YtnjpkncacddplaaGreatDoor
open Go.Hp
variable {G:World} {U:UH} {M:MH}
structure Qvs (U:UH) (M:MH) (b:Nat) (xs:List QV):Prop where
 num:∀ (k:Nat) (x:QV),xs[k]?=some x→∀ (G:World) (w:World),Mem G U M w→w.cell? ⟨b,k*4+1,none⟩=some (.slice x.num.p x.num.n x.num.c)
 den:∀ (k:Nat) (x:QV),xs[k]?=some x→∀ (G:World) (w:World),Mem G U M w→w.cell? ⟨b,k*4+3,none⟩=some (.slice x.den.p x.den.n x.den.c)
end Go.Proofs.YtnjpkncacddplaaGreatDoor
