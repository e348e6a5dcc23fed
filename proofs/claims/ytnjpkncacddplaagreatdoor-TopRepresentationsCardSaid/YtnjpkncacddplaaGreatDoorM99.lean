/- Texts of this seat's own, merged: each begins with its own remark. -/
import Derived.KernelRfl
import Derived.Test.YtnjpkncacddplaaGreatDoorM18
import Derived.Test.YtnjpkncacddplaaGreatDoorVz
import Derived.Test.YtnjpkncacddplaaGreatDoorM51
import Derived.Test.YtnjpkncacddplaaGreatDoorM43
import Derived.Test.YtnjpkncacddplaaGreatDoorM35
import Derived.Test.YtnjpkncacddplaaGreatDoorM113
/- The character of SL2(Z) modulo 12. Plain. -/
namespace Go.Chi
def chiN (a b c d:Nat):Nat:=(((1+143*(c*c))*(b*d+3*(c+11)*d+c+3))+c*(a+d+9)) % 12
def okN (a b c d:Nat):Bool:=Nat.beq ((a*d+11*(b*c)) % 12) 1
def all4 (f:Nat→Nat→Nat→Nat→Bool):Bool:=(List.range 12).all fun a=>(List.range 12).all fun b=>(List.range 12).all fun c=>(List.range 12).all fun d => !okN a b c d || f a b c d
def chk12:Bool:=all4 fun a b c d =>
 Nat.beq (chiN a ((a+b) % 12) c ((c+d) % 12)) ((chiN a b c d+1) % 12) &&
 (Nat.beq (chiN b ((11*a) % 12) d ((11*c) % 12)) ((chiN a b c d+9) % 12) &&
 (Nat.beq (chiN ((a+c) % 12) ((b+d) % 12) c d) ((chiN a b c d+1) % 12) &&
 (Nat.beq (chiN ((11*c) % 12) ((11*d) % 12) a b) ((chiN a b c d+9) % 12) &&
 Nat.beq (chiN ((11*a) % 12) ((11*b) % 12) ((11*c) % 12) ((11*d) % 12)) ((chiN a b c d+6) % 12))))
def m12 (x:Int):Nat:=(x % 12).toNat
def ch (a b c d:Int):Int:=((chiN (m12 a) (m12 b) (m12 c) (m12 d):Nat):Int)
def ssum (f:Nat→Int):Nat→Int
 | 0=>0
 | n+1=>ssum f n+f n
end Go.Chi

/- Walks of sl2: in, fits, Det, Check, nearest. -/
namespace Go.Proofs.YtnjpkncacddplaaGreatDoor
open Go.Hp
variable {G:World} {U U':UH} {M:MH}
theorem mulb {a b c d:Int} (h1 : -c≤a∧a≤c) (h2 : -d≤b∧b≤d) : -(c*d)≤a*b∧a*b≤c*d:=by
 have e:(a*b).natAbs≤c.natAbs*d.natAbs:=by rw [Int.natAbs_mul]; exact Nat.mul_le_mul (by omega) (by omega)
 have e2:c*d=((c.natAbs*d.natAbs:Nat):Int):=by rw [Int.natCast_mul,Int.natAbs_of_nonneg (by omega),Int.natAbs_of_nonneg (by omega)]
 rw [e2]; omega
theorem negZ64 {z:Int} (h : -9223372036854775807≤z∧z≤9223372036854775807):IntKind.i64.wrap (0 - z) = -z:=by
 rw [IntWalk.i64_in _ (by omega)]; omega
theorem QeR {P:Program} {N:Nat} {E:Env} {o:Oper} {ty yt:Nat} {x y:Operand} {k:IntKind} {a b:Int} (ho:o.op = .binOp .quo ty x y yt) (hx:ev E x=some (.int k a)) (hy:ev E y=some (.int k b))
  (h:b≠0):Yl P N G o E U M (.int k (k.wrap (a.tdiv b))):=by
 refine VV ho hx hy (funext fun w=>?_)
 simp [binOp,Op.intDiv,h]
def F4 (a b c d:Int):Prop:=(-1073741824≤a∧a≤1073741824)∧(-1073741824≤b∧b≤1073741824)∧(-1073741824≤c∧c≤1073741824)∧(-1073741824≤d∧d≤1073741824)
end Go.Proofs.YtnjpkncacddplaaGreatDoor

/- Walks of sl2: Value, Factor, Abelian. -/
namespace Go.Proofs.YtnjpkncacddplaaGreatDoor
open Go.Hp Go.Chi
variable {G:World} {U U':UH} {M:MH}
end Go.Proofs.YtnjpkncacddplaaGreatDoor

/- Walks of sl2: Factor, Abelian. -/
namespace Go.Proofs.YtnjpkncacddplaaGreatDoor
open Go.Hp Go.Chi
variable {G:World} {U U':UH} {M:MH}
end Go.Proofs.YtnjpkncacddplaaGreatDoor

/- The law TopAbelian: the walk. -/
namespace Go.Proofs.YtnjpkncacddplaaGreatDoor
open Go.Hp Go.Gx Go.Chi
variable {G:World} {U U':UH} {M:MH}
end Go.Proofs.YtnjpkncacddplaaGreatDoor
