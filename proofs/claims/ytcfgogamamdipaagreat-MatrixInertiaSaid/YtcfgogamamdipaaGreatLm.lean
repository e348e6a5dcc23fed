/- Signatures: sizes, and one step of the elimination. No condition. -/
import Derived.Test.YtcfgogamamdipaaGreatLl
import Derived.Test.YtcfgogamamdipaaGreatM19
namespace Go.Proofs.YtcfgogamamdipaaGreat
open Go.Hp

/-- What is left after k steps has so many words. -/
def sgb (b : Nat) : Nat → Nat
  | 0 => b
  | k + 1 => 16 * sgb b k + 13
theorem sgb_step {b k : Nat} : sgb b (k + 1) = 16 * sgb b k + 13 := rfl
theorem sgb_le {b k l : Nat} (h : k ≤ l) : sgb b k ≤ sgb b l := by
  induction l with
  | zero => obtain rfl : k = 0 := by omega
            exact Nat.le_refl _
  | succ l ih =>
    by_cases e : k = l + 1
    · subst e; exact Nat.le_refl _
    · have := ih (by omega)
      rw [sgb_step]; omega

theorem sz_mix {n i j s : Nat} {A : Nat → Nat → Rat} (hs : ∀ a c, a < n → c < n → Szq (A a c) s) (hi : i < n) (hj : j < n) : ∀ a c, a < n → c < n → Szq (La.cop (La.rop A i j 1) i j 1 a c) (4 * s + 3) := by
  have h1 : ∀ a c, a < n → c < n → Szq (La.rop A i j 1 a c) (2 * s + 1) := fun a c ha hc => by
    unfold La.rop
    split
    · rw [Rat.one_mul]; exact ((hs i c hi hc).add (hs j c hj hc)).mono (by omega)
    · exact (hs a c ha hc).mono (by omega)
  intro a c ha hc
  unfold La.cop
  split
  · rw [Rat.one_mul]; exact ((h1 a i ha hi).add (h1 a j ha hj)).mono (by omega)
  · exact (h1 a c ha hc).mono (by omega)

theorem sz_lk {n i k s : Nat} {A0 A L : Nat → Nat → Rat} {dn : Nat → Bool} {f : Nat → Rat} (hg : La.Gram n A0 L A) (hs : ∀ a c, a < n → c < n → Szq (A a c) s) (hi : i < n) (h0 : A i i ≠ 0) (hf : ∀ r, r < n → f r = -(A r i / A i i)) :
    ∀ r c, r < n → c < n → Szq (La.bl n A0 (La.lk dn L f i k r) (La.lk dn L f i k c)) (4 * s + 1) := fun r c hr hc => by
  have sf : ∀ r, r < n → Szq (f r) (2 * s) := fun r hr => by
    rw [hf r hr]; exact (((hs r i hr hi).div (hs i i hi hi)).neg).mono (by omega)
  rcases La.lk_vals (A := A0) (L := L) (dn := dn) (f := f) (i := i) (k := k) (r := r) (c := c) (by rw [← hg i i hi hi]; exact h0) (fun r hr => by rw [← hg r i hr hi, ← hg i i hi hi]; exact hf r hr) hr with h | h | h
  · rw [h, ← hg r c hr hc]; exact (hs r c hr hc).mono (by omega)
  · rw [h, ← hg r c hr hc, ← hg i c hi hc]
    exact ((hs r c hr hc).add ((sf r hr).mul (hs i c hi hc))).mono (by omega)
  · rw [h, ← hg r c hr hc, ← hg r i hr hi]
    exact ((hs r c hr hc).add ((sf c hc).mul (hs r i hr hi))).mono (by omega)

/-- A diagonal element is there, or all that is left is 0. -/
def Turned (n : Nat) (dn : Nat → Bool) (A : Nat → Nat → Rat) (t : Int) : Prop :=
  (t = -1 ∧ ∀ r c, r < n → c < n → dn r = false → dn c = false → A r c = 0) ∨ ∃ i : Nat, t = (i : Int) ∧ i < n ∧ dn i = false ∧ A i i ≠ 0

theorem turn_ok {n p m s : Nat} {A0 A A' L P N : Nat → Nat → Rat} {dn : Nat → Bool} {t : Int} (hA : ∀ i j, i < n → j < n → A0 i j = A0 j i) (hg : La.Gram n A0 L A) (h : La.Pdn n p m A0 dn L P N) (hs : ∀ a c, a < n → c < n → Szq (A a c) s)
    (ht : (t = -1 ∧ A' = A ∧ (∀ i, i < n → dn i = false → A i i = 0) ∧ ∀ i j, i < n → j < i → dn i = false → dn j = false → A i j = 0) ∨
       ∃ i : Nat, t = (i : Int) ∧ i < n ∧ dn i = false ∧ ((A' = A ∧ A i i ≠ 0) ∨ ∃ j, j < i ∧ dn j = false ∧ A i i = 0 ∧ A j j = 0 ∧ A i j ≠ 0 ∧ A' = La.cop (La.rop A i j 1) i j 1)) :
    ∃ L', La.Gram n A0 L' A' ∧ La.Pdn n p m A0 dn L' P N ∧ (∀ a c, a < n → c < n → Szq (A' a c) (4 * s + 3)) ∧ Turned n dn A' t := by
  have hsy : ∀ r c, r < n → c < n → A r c = A c r := fun r c hr hc => by rw [hg r c hr hc, hg c r hc hr, La.bl_symm hA]
  rcases ht with ⟨rfl, rfl, h1, h2⟩ | ⟨i, rfl, hi, hd, ⟨rfl, h1⟩ | ⟨j, hj, hdj, h1, h2, h3, rfl⟩⟩
  · refine ⟨L, hg, h, fun a c ha hc => (hs a c ha hc).mono (by omega), .inl ⟨rfl, fun r c hr hc hdr hdc => ?_⟩⟩
    rcases Nat.lt_trichotomy c r with h3 | h3 | h3
    · exact h2 r c hr h3 hdr hdc
    · subst h3; exact h1 c hc hdc
    · rw [hsy r c hr hc]; exact h2 c r hc h3 hdc hdr
  · exact ⟨L, hg, h, fun a c ha hc => (hs a c ha hc).mono (by omega), .inr ⟨i, rfl, hi, hd, h1⟩⟩
  · have hjn : j < n := by omega
    refine ⟨_, hg.op hi hjn (by omega), h.mix hi hjn (by omega) hd hdj, sz_mix hs hi hjn, .inr ⟨i, rfl, hi, hd, ?_⟩⟩
    have e1 : La.cop (La.rop A i j 1) i j 1 i i = (A i i + 1 * A j i) + 1 * (A i j + 1 * A j j) := by
      unfold La.cop
      rw [if_pos rfl]
      unfold La.rop
      rw [if_pos rfl, if_pos rfl]
    rw [e1, h1, h2, hsy j i hjn hi]
    intro e
    apply h3
    grind

theorem pivot_ok {n p m i : Nat} {A0 A L P N : Nat → Nat → Rat} {dn : Nat → Bool} {f : Nat → Rat} (hA : ∀ i j, i < n → j < n → A0 i j = A0 j i) (hg : La.Gram n A0 L A) (h : La.Pdn n p m A0 dn L P N) (hi : i < n) (hd : dn i = false) (hf : ∀ r, r < n → f r = -(A r i / A i i)) :
    (0 < A i i → La.Pdn n (p + 1) m A0 (La.setb dn i) (La.lk (La.setb dn i) L f i n) (La.setr P p (L i)) N) ∧
    (A i i < 0 → La.Pdn n p (m + 1) A0 (La.setb dn i) (La.lk (La.setb dn i) L f i n) P (La.setr N m (L i))) := by
  have hf2 : ∀ r, r < n → f r = -(La.bl n A0 (L r) (L i) / La.bl n A0 (L i) (L i)) := fun r hr => by rw [← hg r i hr hi, ← hg i i hi hi]; exact hf r hr
  exact ⟨fun h0 => h.pos hA hi hd (by rw [← hg i i hi hi]; exact h0) hf2, fun h0 => h.negv hA hi hd (by rw [← hg i i hi hi]; exact h0) hf2⟩

end Go.Proofs.YtcfgogamamdipaaGreat
