/- Rows times an invertible matrix. No condition. -/
import Derived.Test.YtcfgogamamdipaaM19
namespace Go.La
section
variable {K : Type} [Fld K]

/-- Rows times an invertible matrix have the same span. -/
theorem same_mul {k n : Nat} {B R : Mx K} {p : Nat → Nat} (h : Ech k k R p) (e : Same k k k R B) (A : Mx K) : Same k k n (mm k B A) A := by
  obtain ⟨-, hR⟩ := h.full
  refine ⟨fun i _ => ⟨fun t => B i t, fun _ _ => rfl⟩, fun i hi => ?_⟩
  obtain ⟨c, hc⟩ := e.lt i hi
  refine ⟨c, fun l _ => ?_⟩
  have h1 : A i l = sm k fun j => R i j * A j l := by
    rw [sm_one i hi (fun j hj hne => by rw [hR i j hi hj]; unfold idm; rw [if_neg (Ne.symm hne), zero_mul]), hR i i hi hi, idm, if_pos rfl, one_mul]
  rw [h1]
  have h2 : (sm k fun j => R i j * A j l) = sm k fun j => sm k fun t => c t * (B t j * A j l) := sm_congr fun j hj => by
    rw [hc j hj, ← sm_mul']
    exact sm_congr fun t _ => mul_assoc _ _ _
  rw [h2, sm_comm]
  refine sm_congr fun t _ => ?_
  rw [sm_mul]; rfl
end
end Go.La
