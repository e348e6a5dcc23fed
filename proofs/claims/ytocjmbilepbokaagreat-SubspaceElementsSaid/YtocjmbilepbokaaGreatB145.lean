/- Laws of layer 10: the lattice of subspaces. -/
import Derived.Test.YtocjmbilepbokaaGreatM33
namespace Go.Proofs.YtocjmbilepbokaaGreat
open Go.Hp
variable {G : World} {U U' : UH} {M M' : MH}

theorem same_spans {r s n : Nat} {R S : Nat → Nat → Rat} {p q : Nat → Nat} (h : La.Ech r n R p) (k : La.Ech s n S q) (e : ∀ v, La.Sp r n R v ↔ La.Sp s n S v) : r = s ∧ n = n ∧ ∀ i j, i < r → j < n → R i j = S i j := by
  obtain ⟨h1, -, h2⟩ := h.unique k ⟨fun i hi => (e _).1 (La.Sp.row hi), fun i hi => (e _).2 (La.Sp.row hi)⟩
  exact ⟨h1, rfl, h2⟩
theorem same_bool {a b : Bool} {p : Prop} (ha : a = true ↔ p) (hb : b = true ↔ p) : a = b := by
  rw [Bool.eq_iff_iff, ha, hb]
theorem neq_same (b : Bool) : (!(b == b)) = false := by cases b <;> rfl
theorem VldS.get' {v : Value} {d r c : Int} {n : Nat} {f : Nat → Rat} (h : VldS d r c n f) (hl : LitS U v d r c n f) : ∃ (R C : Nat) (q : Nat → Nat), d = (C : Int) ∧ r = (R : Int) ∧ c = (C : Int) ∧ n = R * C ∧ R ≤ 6 ∧ C ≤ 6 ∧ Sv (Wq 1) R C U v (fun i j => f (i * C + j)) ∧ La.Ech R C (fun i j => f (i * C + j)) q ∧ Hw (1 * 37 + 1) R C (fun i j => f (i * C + j)) := by
  obtain ⟨R, C, q, h1, h2, h3, h4, h5, h6, h7⟩ := h.get hl
  have hn : n = R * C := by
    have := h.1.2.2.2.2
    rw [h2, h3, ← Int.natCast_mul] at this
    omega
  exact ⟨R, C, q, h1, h2, h3, hn, h4, h5, h6, h7, hw_short (a := 1) (fun i j hi hj => h6.sz (Nat.le_refl 1) hi hj) h4 h5⟩

end Go.Proofs.YtocjmbilepbokaaGreat
