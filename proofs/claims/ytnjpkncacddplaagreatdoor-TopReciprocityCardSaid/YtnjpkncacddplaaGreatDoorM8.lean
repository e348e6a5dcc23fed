/- Texts of this seat's own, merged: each begins with its own remark. -/
import Derived.Test.YtnjpkncacddplaaGreatDoorM7
import Derived.Test.YtnjpkncacddplaaGreatDoorM4
import Derived.Test.YtnjpkncacddplaaGreatDoorM2
/- Walks: powers of integers. -/
namespace Go.Proofs.YtnjpkncacddplaaGreatDoor
open Go.Hp
variable {G:World} {U:UH} {M:MH}
theorem QhF {P:Program} {N:Nat} {E:Env} {o:Oper} {ty yt:Nat} {x y:Operand} {k:IntKind} {a:Int} {m:Nat} (ho:o.op = .binOp .and ty x y yt) (hx:ev E x=some (.int k a)) (hy:ev E y=some (.int k 1)) (ha:a=(m:Int)) (hm:(m:Int)≤kmax k) :
  Yl P N G o E U M (.int k ((m % 2:Nat):Int)):=by
 refine Vl ho hx hy (funext fun w=>?_)
 subst ha
 have h1:(BitVec.ofInt k.bits (m:Int) &&& BitVec.ofInt k.bits 1).toNat=m % 2:=by
  have e1:BitVec.ofInt k.bits (m:Int)=BitVec.ofNat k.bits m:=BitVec.ofInt_natCast ..
  have e2:BitVec.ofInt k.bits 1=BitVec.ofNat k.bits 1:=BitVec.ofInt_natCast k.bits 1
  rw [e1,e2,BitVec.toNat_and,BitVec.toNat_ofNat,BitVec.toNat_ofNat]
  cases k<;>simp only [IntKind.bits]<;>simp only [kmax] at hm
  all_goals
   rw [Nat.mod_eq_of_lt (by omega),Nat.mod_eq_of_lt (by decide),Nat.and_one_is_mod]
 simp only [binOp,ne_eq,not_true_eq_false,if_false,Op.intBits]
 show Result.ok (Value.int k (k.wrap (((BitVec.ofInt k.bits (m:Int) &&& BitVec.ofInt k.bits 1).toNat:Nat):Int))) w=_
 rw [h1,QaF (by omega) (by cases k<;>simp only [kmax]<;>omega)]
end Go.Proofs.YtnjpkncacddplaaGreatDoor

/- Walks of the reference of layer 1: powers. -/
namespace Go.Proofs.YtnjpkncacddplaaGreatDoor
open Go.Hp
variable {G:World} {U:UH} {M:MH}
end Go.Proofs.YtnjpkncacddplaaGreatDoor

/- Walks: powers modulo an integer. -/
namespace Go.Proofs.YtnjpkncacddplaaGreatDoor
open Go.Hp
variable {G:World} {U:UH} {M:MH}
end Go.Proofs.YtnjpkncacddplaaGreatDoor

/- Walks of the reference of layer 1: powers modulo an integer. -/
namespace Go.Proofs.YtnjpkncacddplaaGreatDoor
open Go.Hp
variable {G:World} {U:UH} {M:MH}
end Go.Proofs.YtnjpkncacddplaaGreatDoor
