/- Solving by the echelon form of [T|I]. No condition. -/
import Derived.Test.YtcfgogamamdipaaLg
namespace Go.La
section
variable {K : Type} [Fld K]

theorem rest_step {r N i : Nat} {R : Mx K} {p : Nat → Nat} {f rest : Nat → K} (h : Ech r N R p) (hi : i < r) (hsp : Sp r N R (fun j => f j + -rest j)) (hz : ∀ t, t < i → rest (p t) = 0) :
    Sp r N R (fun j => f j + -(clr rest (R i) (p i) j)) ∧ ∀ t, t < i + 1 → clr rest (R i) (p i) (p t) = 0 := by
  refine ⟨(hsp.comb (rest (p i)) (Sp.row hi)).congr (fun _ _ _ _ => rfl) fun j _ => ?_, fun t ht => ?_⟩
  · show f j + -rest j + rest (p i) * R i j = f j + -(rest j + -(rest (p i)) * R i j)
    rw [neg_add, neg_mul, neg_neg, add_assoc]
  · show rest (p t) + -(rest (p i)) * R i (p t) = 0
    rcases Nat.lt_or_eq_of_le (Nat.le_of_lt_succ ht) with h1 | h1
    · rw [hz t h1, h.one i t hi (by omega), if_neg (by omega), mul_zero, add_zero]
    · subst h1
      rw [h.one t t hi hi, if_pos rfl, mul_one, add_neg_self]

theorem solve_ref {m n r : Nat} {T R : Mx K} {p : Nat → Nat} {b rest : Nat → K} (h : Ech r (n + m) R p) (e : Same r m (n + m) R (aug n T)) (hsp : Sp r (n + m) R (fun j => (if j < n then b j else 0) + -rest j)) (hz : ∀ i, i < r → rest (p i) = 0) :
    ((∀ j, j < n → rest j = 0) → SolOf m n T b (fun t => -rest (n + t))) ∧ ∀ y, Sol m n T b y → ∀ j, j < n → rest j = 0 := by
  obtain ⟨s, hs, h1, h2⟩ := split_pivots (n := n) h.mono
  obtain ⟨hk, he, hsm, hrm⟩ := kern_ref h e hs h1 h2
  have h3 : ∀ j, j < n → b j = rest j + sm m fun t => -rest (n + t) * T t j := fun j hj => by
    have h4 := sp_aug.1 (hsp.trans e.lt) j hj
    rw [if_pos hj] at h4
    have h5 : (sm m fun i => ((if n + i < n then b (n + i) else 0) + -rest (n + i)) * T i j) = sm m fun t => -rest (n + t) * T t j := sm_congr fun i _ => by rw [if_neg (by omega), zero_add]
    rw [h5] at h4
    rw [← h4, add_left_comm, add_neg_self, add_zero]
  refine ⟨fun h0 => ⟨fun j hj => ?_, r - s, _, _, hk, fun i hi => ?_⟩, fun y hy => part_none he hsm h3 (fun i hi => hz i (by omega)) hy⟩
  · rw [h3 j hj, h0 j hj, zero_add]
  · have := h2 (s + i) (by omega) (by omega)
    show -rest (n + (p (s + i) - n)) = 0
    rw [show n + (p (s + i) - n) = p (s + i) by omega, hz _ (by omega), neg_zero]

end
end Go.La
