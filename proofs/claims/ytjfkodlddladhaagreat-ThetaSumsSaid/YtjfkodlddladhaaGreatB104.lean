/- The law of layer 9 on echelon forms. -/
import Derived.Test.YtjfkodlddladhaaGreatB103
import Derived.Test.YtjfkodlddladhaaGreatM34
namespace Go.Proofs.YtjfkodlddladhaaGreat
open Go.Hp
variable {G : World} {U U' : UH} {M M' : MH}
theorem EchOf.unique {m n r r' : Nat} {A R R' : Nat → Nat → Rat} {p p' : Nat → Nat} (h : EchOf m n r A R p) (h' : EchOf m n r' A R' p') : r = r' ∧ (∀ i, i < r → p i = p' i) ∧ ∀ i j, i < r → j < n → R i j = R' i j :=
 h.ech.unique h'.ech (h.same.trans h'.same.symm)
end Go.Proofs.YtjfkodlddladhaaGreat
