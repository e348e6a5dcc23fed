/- Texts of this seat's own, merged: each begins with its own remark. -/
import Derived.Test.YtahcddpdgpjbnaaM4
import Derived.Test.YtahcddpdgpjbnaaM2
import Derived.Test.YtahcddpdgpjbnaaM3
import Derived.Test.YtahcddpdgpjbnaaM1
/- Walks: integers as machine integers; the reference's number of binary digits. -/
namespace Go.Proofs.Ytahcddpdgpjbnaa
open Go.Hp
variable {G:World} {U:UH} {M:MH}
def smv (z:Int):Int:=if -9223372036854775808≤z∧z≤9223372036854775807 then z else 0
def smb (z:Int):Bool:=decide (-9223372036854775808≤z∧z≤9223372036854775807)
end Go.Proofs.Ytahcddpdgpjbnaa

/- Walks of the reference of layer 1: words, shifts. -/
namespace Go.Proofs.Ytahcddpdgpjbnaa
open Go.Hp
variable {G:World} {U:UH} {M:MH}
end Go.Proofs.Ytahcddpdgpjbnaa

/- Walks of the reference of layer 1: division of digits, binary digit by binary digit. -/
namespace Go.Proofs.Ytahcddpdgpjbnaa
open Go.Hp
variable {G:World} {U:UH} {M:MH}
def OwnOr (D:MH) (q:Option Addr) (k cc:Nat) (lr:List Nat) (p:Option Addr) (n c:Nat) (a:List Nat):Prop :=
 Own D q k cc lr∨(D=[]∧q=p∧k=n∧cc=c∧lr=a)
theorem OwnOr.dig {D X:MH} {q p:Option Addr} {k cc n c:Nat} {lr a:List Nat} (h:OwnOr D q k cc lr p n c a) (ha:Dig U M p n c a) (hX:M.Sublist X):Dig U (D++X) q k cc lr:=by
 rcases h with h | ⟨rfl,rfl,rfl,rfl,rfl⟩
 ·exact h.dig
 ·exact ha.up (ULe.refl _) hX
end Go.Proofs.Ytahcddpdgpjbnaa

/- Walks of the reference of layer 1: Euclid's division of integers. -/
namespace Go.Proofs.Ytahcddpdgpjbnaa
open Go.Hp
variable {G:World} {U:UH} {M:MH}
theorem IV.own.form {x:IV} {D:MH} {z:Int} (h:x.own D z):∃ l,Own D x.p x.n x.c l∧Cn l∧val l=z.natAbs∧z=sg x.neg (val l):=by
 obtain ⟨l,o,c,v,s⟩:=h
 refine ⟨l,o,c,v,?_⟩
 rw [v,s]; unfold sg; by_cases h:z < 0<;>simp [h]<;>omega
end Go.Proofs.Ytahcddpdgpjbnaa
