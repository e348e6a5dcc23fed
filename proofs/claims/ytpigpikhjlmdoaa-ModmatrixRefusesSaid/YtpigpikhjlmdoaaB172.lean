/- Walks of layer 13's reference: residues, also of fractions. -/
import Derived.Test.YtpigpikhjlmdoaaM43
import Derived.Test.YtpigpikhjlmdoaaM41
import Derived.Test.YtpigpikhjlmdoaaM35
import Derived.Test.YtpigpikhjlmdoaaM44
import Derived.Test.YtpigpikhjlmdoaaM48
namespace Go.Proofs.Ytpigpikhjlmdoaa
open Go.Hp
open Go.Fq (Pm Fp Prm)
variable {G : World} {U U' : UH} {M : MH}

/-- The same entries in another order, after stores. -/
theorem pfs {α : Type} {a b : List α} (h : ∀ f : α → Nat, (a.map f).sum = (b.map f).sum := by intro f; simp only [List.set_cons_zero, List.set_cons_succ, TInt, TIs, TF, TR, zeroQV, zeroIV0, QV.v, List.map_append, List.map_cons, List.sum_append, List.sum_cons, List.flatten_cons, List.flatten_append, List.flatten_nil, List.map_nil, List.sum_nil, List.nil_append, List.append_nil]; omega) : a.Perm b := pf h

end Go.Proofs.Ytpigpikhjlmdoaa
