/- Signatures by splitting off: sizes. No condition. -/
import Derived.Test.YtcfgogamamdipaaGreatLk
import Derived.Test.YtcfgogamamdipaaGreatM19
namespace Go.Proofs.YtcfgogamamdipaaGreat
open Go.Hp

/-- Words of the numbers B(L i, L k), and of the elements of L, after k steps. -/
def sgg : Nat → Nat
  | 0 => 1
  | k + 1 => 16 * sgg k + 9
def srr : Nat → Nat
  | 0 => 1
  | k + 1 => 2 * srr k + 4 * sgg k + 3
theorem sgg_le : ∀ {k : Nat}, k < 5 → sgg k ≤ 110000 ∧ srr k ≤ 40000
  | 0, _ | 1, _ | 2, _ | 3, _ | 4, _ => by decide
  | k + 5, h => by omega
theorem sg_gro : ∀ {k : Nat}, k < 5 → La.gro (3 * srr k + 6 * sgg k + 6) (5 - k) ≤ 100000000
  | 0, _ | 1, _ | 2, _ | 3, _ | 4, _ => by decide
  | k + 5, h => by omega

theorem _root_.Go.La.szq_bl {n b K : Nat} {A : Nat → Nat → Rat} {f g : Nat → Rat} (sA : ∀ i j, i < n → j < n → Szq (A i j) b) (sf : ∀ i, i < n → Szq (f i) b) (sg : ∀ i, i < n → Szq (g i) b) (hB : n * (n * (2 * b + 1) + b + 2) ≤ K) : Szq (La.bl n A f g) (1 + K) := by
  have sz : ∀ j, j < n → Szq (La.sm n fun i => f i * A i j) (1 + n * (2 * b + 1)) := fun j hj => (szq_sm fun k hk => (sf k hk).mul (sA k j hk hj)).mono (by
    have : b + b + 1 = 2 * b + 1 := by omega
    rw [this]; exact Nat.le_refl _)
  refine (szq_sm (k := 1 + n * (2 * b + 1) + b) fun k hk => (sz k hk).mul (sg k hk)).mono ?_
  have e6 : 1 + n * (2 * b + 1) + b + 1 = n * (2 * b + 1) + b + 2 := by omega
  rw [e6]
  omega

/-- A vector of the list, or the sum of two. -/
def IsV (r n : Nat) (L : Nat → Nat → Rat) (v : Nat → Rat) : Prop := ∃ a, a < r ∧ ((∀ j, j < n → v j = L a j) ∨ ∃ c, c < r ∧ ∀ j, j < n → v j = L a j + 1 * L c j)
theorem IsV.sp {r n : Nat} {L : Nat → Nat → Rat} {v : Nat → Rat} (h : IsV r n L v) : La.Sp r n L v := by
  obtain ⟨a, ha, h | ⟨c, hc, h⟩⟩ := h
  · exact (La.Sp.row ha).congr (fun _ _ _ _ => rfl) fun j hj => (h j hj).symm
  · exact ((La.Sp.row ha).comb 1 (La.Sp.row hc)).congr (fun _ _ _ _ => rfl) fun j hj => (h j hj).symm
theorem IsV.szq {r n rr : Nat} {L : Nat → Nat → Rat} {v : Nat → Rat} (h : IsV r n L v) (hs : ∀ i j, i < r → j < n → Szq (L i j) rr) : ∀ j, j < n → Szq (v j) (2 * rr + 1) := fun j hj => by
  obtain ⟨a, ha, h | ⟨c, hc, h⟩⟩ := h
  · rw [h j hj]; exact (hs a j ha hj).mono (by omega)
  · rw [h j hj, Rat.one_mul]; exact ((hs a j ha hj).add (hs c j hc hj)).mono (by omega)
theorem IsV.bl {r n gg : Nat} {A L : Nat → Nat → Rat} {v x : Nat → Rat} (h : IsV r n L v) (hs : ∀ i, i < r → Szq (La.bl n A x (L i)) gg) : Szq (La.bl n A x v) (2 * gg + 1) := by
  obtain ⟨a, ha, h | ⟨c, hc, h⟩⟩ := h
  · rw [La.bl_congr (B := A) (x' := x) (y' := L a) (fun _ _ _ _ => rfl) (fun _ _ => rfl) h]; exact (hs a ha).mono (by omega)
  · rw [La.bl_congr (B := A) (x' := x) (y' := fun j => L a j + 1 * L c j) (fun _ _ _ _ => rfl) (fun _ _ => rfl) h, La.bl_comb_right, Rat.one_mul]
    exact ((hs a ha).add (hs c hc)).mono (by omega)
theorem IsV.self {r n gg : Nat} {A L : Nat → Nat → Rat} {v : Nat → Rat} (hA : ∀ i j, i < n → j < n → A i j = A j i) (h : IsV r n L v) (hs : ∀ i k, i < r → k < r → Szq (La.bl n A (L i) (L k)) gg) : Szq (La.bl n A v v) (4 * gg + 3) := by
  have h1 : ∀ i, i < r → Szq (La.bl n A v (L i)) (2 * gg + 1) := fun i hi => by
    rw [La.bl_symm hA]; exact h.bl fun k hk => hs i k hi hk
  exact (h.bl (gg := 2 * gg + 1) h1).mono (by omega)

theorem next_sizes {r n t rr gg : Nat} {A L X : Nat → Nat → Rat} {v : Nat → Rat} (hA : ∀ i j, i < n → j < n → A i j = A j i) (h : IsV (r + 1) n L v) (ht : t < r + 1)
    (hs : ∀ i j, i < r + 1 → j < n → Szq (L i j) rr) (hg : ∀ i k, i < r + 1 → k < r + 1 → Szq (La.bl n A (L i) (L k)) gg)
    (hX : ∀ i j, i < r → j < n → X i j = L (La.skip t i) j + -(La.bl n A (L (La.skip t i)) v / La.bl n A (L t) v) * L t j) :
    (∀ i j, i < r → j < n → Szq (X i j) (2 * rr + 4 * gg + 3)) ∧ ∀ i k, i < r → k < r → Szq (La.bl n A (X i) (X k)) (16 * gg + 9) := by
  have hy : ∀ i, i < r + 1 → Szq (La.bl n A (L i) v) (2 * gg + 1) := fun i hi => h.bl fun k hk => hg i k hi hk
  have hq : ∀ i, i < r → Szq (-(La.bl n A (L (La.skip t i)) v / La.bl n A (L t) v)) (4 * gg + 2) := fun i hi => (((hy _ (La.skip_lt hi)).div (hy t ht)).neg).mono (by omega)
  refine ⟨fun i j hi hj => ?_, fun i k hi hk => ?_⟩
  · rw [hX i j hi hj]
    exact ((hs _ j (La.skip_lt hi) hj).add ((hq i hi).mul (hs t j ht hj))).mono (by omega)
  · rw [La.bl_congr (B := A) (fun _ _ _ _ => rfl) (fun j hj => hX i j hi hj) (fun j hj => hX k j hk hj), La.bl_comb_left, La.bl_comb_right, La.bl_comb_right]
    have g1 := hg (La.skip t i) (La.skip t k) (La.skip_lt hi) (La.skip_lt hk)
    have g2 := hg (La.skip t i) t (La.skip_lt hi) ht
    have g3 := hg t (La.skip t k) ht (La.skip_lt hk)
    have g4 := hg t t ht ht
    exact ((g1.add ((hq k hk).mul g2)).add ((hq i hi).mul (g3.add ((hq k hk).mul g4)))).mono (by omega)

theorem iso_zero {r n : Nat} {A L : Nat → Nat → Rat} (hA : ∀ i j, i < n → j < n → A i j = A j i) (h1 : ∀ i, i < r → La.bl n A (L i) (L i) = 0) (h2 : ∀ i k, i < r → k < i → La.bl n A (fun j => L i j + 1 * L k j) (fun j => L i j + 1 * L k j) = 0) :
    ∀ i k, i < r → k < r → La.bl n A (L i) (L k) = 0 := by
  have key : ∀ i k, i < r → k < i → La.bl n A (L i) (L k) = 0 := fun i k hi hk => by
    have := h2 i k hi hk
    rw [La.bl_comb_left, La.bl_comb_right, La.bl_comb_right, h1 i hi, h1 k (by omega), La.bl_symm hA (L k) (L i)] at this
    grind
  intro i k hi hk
  rcases Nat.lt_trichotomy k i with h | h | h
  · exact key i k hi h
  · subst h; exact h1 k hk
  · rw [La.bl_symm hA]; exact key k i hk h

theorem idm_ech (n : Nat) : La.Ech n n (La.idm : Nat → Nat → Rat) id where
  lt := fun _ h => h
  mono := fun _ _ h _ => h
  one := fun _ _ _ _ => rfl
  zero := fun i j _ h => by
    show (if i = j then (1 : Rat) else 0) = 0
    have : j < i := h
    rw [if_neg (by omega)]

end Go.Proofs.YtcfgogamamdipaaGreat
