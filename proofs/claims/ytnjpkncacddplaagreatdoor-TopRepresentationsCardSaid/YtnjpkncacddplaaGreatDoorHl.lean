/- The field of a struct value. -/
import Derived.Test.YtnjpkncacddplaaGreatDoorM19
namespace Go.Proofs.YtnjpkncacddplaaGreatDoor
open Go.Hp
def fldV (T:TT) (s f:Nat) (v:Value):Option Value :=
 match v,lkT T s with
 | .agg c,some ⟨.struct fs,_,_,_⟩=>match fs[f]? with
  | some (ft,off)=>match lkT T ft with
   | some ⟨.struct _,n,_,_⟩=>some (.agg ((c.toList.drop off).take n).toArray)
   | some ⟨.other,_,_,_⟩=>none
   | some _=>nth c.toList off
   | none=>none
  | none=>none
 | _,_=>none
end Go.Proofs.YtnjpkncacddplaaGreatDoor
