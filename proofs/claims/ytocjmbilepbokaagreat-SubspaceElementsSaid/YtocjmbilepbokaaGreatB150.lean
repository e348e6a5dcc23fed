/- Laws of layer 10: products of maps on invariant subspaces. -/
import Derived.Test.YtocjmbilepbokaaGreatB149
namespace Go.Proofs.YtocjmbilepbokaaGreat
open Go.Hp
variable {G : World} {U U' : UH} {M M' : MH}

theorem quo_cols {r m : Nat} {B T : Nat → Nat → Rat} {p f f' : Nat → Nat} (e : ∀ k, k < m → f k = f' k) (i j : Nat) (hi : i < m) (hj : j < m) : La.quo r B T p f' i j = La.quo r B T p f i j := by
  unfold La.quo; rw [e i hi, e j hj]

end Go.Proofs.YtocjmbilepbokaaGreat
