/- Texts of this seat's own, merged: each begins with its own remark. -/
import Derived.Test.YtnjpkncacddplaaGreatDoorM2
import Derived.Test.YtnjpkncacddplaaGreatDoorM1
/- Walks of bigint, 1: digits. -/
namespace Go.Proofs.YtnjpkncacddplaaGreatDoor
open Go.Hp
variable {G:World} {U:UH} {M:MH}
end Go.Proofs.YtnjpkncacddplaaGreatDoor

/- Walks of bigint, 2: sums, differences, products of digits. -/
namespace Go.Proofs.YtnjpkncacddplaaGreatDoor
open Go.Hp
variable {G:World} {U:UH} {M:MH}
section
variable {P:Program} {T:TT} {N:Nat} {E:Env} {o:Oper} {x y:Operand} {ty yt:Nat} {A B:BitVec 32}
end
end Go.Proofs.YtnjpkncacddplaaGreatDoor

/- Walks of bigint, 3: sums, differences, products of digits. -/
namespace Go.Proofs.YtnjpkncacddplaaGreatDoor
open Go.Hp
variable {G:World} {U:UH} {M:MH}
end Go.Proofs.YtnjpkncacddplaaGreatDoor

/- Walks of bigint, 4: differences and products of digits. -/
namespace Go.Proofs.YtnjpkncacddplaaGreatDoor
open Go.Hp
variable {G:World} {U:UH} {M:MH}
end Go.Proofs.YtnjpkncacddplaaGreatDoor

/- Walks of bigint, 5: products of digits. -/
namespace Go.Proofs.YtnjpkncacddplaaGreatDoor
open Go.Hp
variable {G:World} {U:UH} {M:MH}
end Go.Proofs.YtnjpkncacddplaaGreatDoor

/- Walks of bigint, 6: division by one digit, shifts. -/
namespace Go.Proofs.YtnjpkncacddplaaGreatDoor
open Go.Hp
variable {G:World} {U:UH} {M:MH}
end Go.Proofs.YtnjpkncacddplaaGreatDoor

/- Walks of bigint, 7: shifts. -/
namespace Go.Proofs.YtnjpkncacddplaaGreatDoor
open Go.Hp
variable {G:World} {U:UH} {M:MH}
section
variable {P:Program} {T:TT} {N:Nat} {E:Env} {o:Oper} {x y:Operand} {ty yt:Nat}
theorem qj {k k':IntKind} {a b:Int} {m n:Nat} (ho:o.op = .binOp .shr ty x y yt) (hx:ev E x=some (.int k a)) (hy:ev E y=some (.int k' b)) (ha:a=(m:Int)) (hb:b=(n:Int)) (h:n≤k.bits) {r:Nat} (hr:m / 2 ^ n=r) :
  Yl P N G o E U M (.int k (r:Int)):=by
 subst ha
 have h1:=Qcs (P:=P) (N:=N) (G:=G) (U:=U) (M:=M) ho hx hy hb h
 have e:(m:Int) / 2 ^ n=(r:Int):=by rw [← hr]; simp
 rwa [e] at h1
end
end Go.Proofs.YtnjpkncacddplaaGreatDoor

/- Walks of bigint, 8: digits moved to the right. -/
namespace Go.Proofs.YtnjpkncacddplaaGreatDoor
open Go.Hp
variable {G:World} {U:UH} {M:MH}
end Go.Proofs.YtnjpkncacddplaaGreatDoor

/- Walks of bigint, 9: one digit of a quotient. -/
namespace Go.Proofs.YtnjpkncacddplaaGreatDoor
open Go.Hp
variable {G:World} {U:UH} {M:MH}
end Go.Proofs.YtnjpkncacddplaaGreatDoor
