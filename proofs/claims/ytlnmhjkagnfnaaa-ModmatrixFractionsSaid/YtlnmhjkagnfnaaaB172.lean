/- Walks of layer 13's reference: residues, also of fractions. -/
import Derived.Test.YtlnmhjkagnfnaaaM43
import Derived.Test.YtlnmhjkagnfnaaaM41
import Derived.Test.YtlnmhjkagnfnaaaM35
import Derived.Test.YtlnmhjkagnfnaaaM44
import Derived.Test.YtlnmhjkagnfnaaaM48
import Derived.Test.YtlnmhjkagnfnaaaHw
namespace Go.Proofs.Ytlnmhjkagnfnaaa
open Go.Hp
open Go.Fq (Pm Fp Prm)
variable {G : World} {U U' : UH} {M : MH}

/-- Two integers side by side. -/
theorem two_ints {b e s : Nat} {x y : IV} {z w : Int} (hx : x.rep U [] z) (hy : y.rep U [] w) (hxn : x.n ≤ s) (hyn : y.n ≤ s) (hM : [(b, .arr [x.v, y.v], e)].Sublist M) :
    Ls (Xw s) 2 2 U M (.slice (some ⟨b, 0, none⟩) 2 2) (fun i => if i = 0 then z else w) := by
  refine ⟨_, _, [x.v, y.v], rfl, Nat.le_refl 2, (RowO.mk (e := e) (b := b) rfl (fun v hv => ?_) (Nat.le_of_ble_eq_true rfl)).at hM, fun k v hk => ?_⟩
  · simp only [List.mem_cons, List.not_mem_nil, or_false] at hv
    rcases hv with rfl | rfl <;> rfl
  · match k, hk with
    | 0, hk => cases hk; exact ⟨x, rfl, hx, hxn⟩
    | 1, hk => cases hk; exact ⟨y, rfl, hy, hyn⟩
    | k + 2, hk => simp at hk

end Go.Proofs.Ytlnmhjkagnfnaaa
