/- Texts of this seat's own, merged: each begins with its own remark. -/
import Derived.Test.YtnjpkncacddplaaGreatM18
import Derived.Test.YtnjpkncacddplaaGreatM40
import Derived.Test.YtnjpkncacddplaaGreatVz
/- Walks of arith and of its reference: residues, primes, inverses modulo primes. -/
namespace Go.Proofs.YtnjpkncacddplaaGreat
open Go.Hp
open Go.Fq (Pm Fp Prm)
variable {G:World} {U:UH} {M:MH}
noncomputable def isP (z:Int):Bool := @decide (0≤z∧Prm z.toNat) (Classical.propDecidable _)
noncomputable def modP (z:Int):Bool:=if z≤65521 then isP z else false
end Go.Proofs.YtnjpkncacddplaaGreat

/- Walks of arith and of its reference: inverses modulo primes. -/
namespace Go.Proofs.YtnjpkncacddplaaGreat
open Go.Hp
open Go.Fq (Pm Fp Prm)
variable {G:World} {U:UH} {M:MH}
end Go.Proofs.YtnjpkncacddplaaGreat

/- Walks of modmatrix: residues as values; grids are made, and laid down as matrices. -/
namespace Go.Proofs.YtnjpkncacddplaaGreat
open Go.Hp
open Go.Fq (Pm Fp Prm)
variable {G:World} {U U':UH} {M:MH}
def Vf (P:Pm) (_:UH) (v:Value) (x:Fp P):Prop:=v = .int .i64 (x.v:Int)
instance {P:Pm}:KeptC (Vf P):=⟨fun _ _ _ _ _ h=>h⟩
section
variable {P:Pm}
variable {N:Nat} {E:Env} {o:Oper} {ty yt:Nat} {s t:Operand}
end
end Go.Proofs.YtnjpkncacddplaaGreat
