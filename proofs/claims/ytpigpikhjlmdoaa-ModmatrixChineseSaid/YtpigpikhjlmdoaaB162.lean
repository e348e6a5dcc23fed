/- Walks of the reference of layer 13: rational reconstruction. -/
import Derived.Test.YtpigpikhjlmdoaaB161
import Derived.Test.YtpigpikhjlmdoaaM7
import Derived.Test.YtpigpikhjlmdoaaM9
import Derived.Test.YtpigpikhjlmdoaaM15
namespace Go.Proofs.Ytpigpikhjlmdoaa
open Go.Hp
variable {G : World} {U U' : UH} {M : MH}

theorem rEuclid_st {x y : IV} {z u : Int} (hx : x.rep U M z) (hn : x.n ≤ 274877906944) (hy : y.rep U M u) (hn' : y.n ≤ 274877906944) (hu : u ≠ 0) :
    Ct Try.prog 15 [x.v, y.v] G U M fun v U' D => ∃ q r : IV, v = .tuple #[q.v, r.v] ∧ q.nrm U' [] (z / u) ∧ r.nrm U' [] (z % u) ∧ D = [] :=
  (rEuclid_ct hx hn hy hn' hu).settle.mono fun _ _ _ _ ⟨h1, _, _, ⟨q, r, Dq, Dr, h2, h3, h4, h5, _⟩, _, _, hs⟩ => by
    subst h3
    exact ⟨q, r, h2, h4.sett hs.right, h5.sett hs.left, h1⟩
end Go.Proofs.Ytpigpikhjlmdoaa
