/- Texts of this seat's own, merged: each begins with its own remark. -/
import Derived.Test.YtlnmhjkagnfnaaaB97
/- Walks of matrix: determinants. -/
namespace Go.Proofs.Ytlnmhjkagnfnaaa
open Go.Hp
variable {G : World} {U U' : UH} {M M' : MH}

theorem _root_.Go.La.Red.full {n : Nat} {A R : La.Mx Rat} {p : Nat → Nat} {d : Rat} {r : Nat} (h : La.Red n n n r A R p d) : (r = n ∧ ∀ i j, i < n → j < n → R i j = La.idm i j) ∨ (r < n ∧ ∀ j, j < n → R (n - 1) j = 0) := by
  rcases Nat.lt_or_eq_of_le h.le with h1 | h1
  · exact .inr ⟨h1, fun j hj => h.zero (n - 1) j (by omega) (by omega) hj⟩
  · subst h1; exact .inl ⟨rfl, h.ech.full.2⟩
theorem _root_.Go.La.Red.det {n : Nat} {A R : La.Mx Rat} {p : Nat → Nat} {d : Rat} {r : Nat} (h : La.Red n n n r A R p d) : (r = n → La.det n A = d) ∧ (r < n → La.det n A = 0) := by
  rcases h.full with ⟨h1, h2⟩ | ⟨h1, h2⟩
  · exact ⟨fun _ => (h.rop rfl).det h2, fun h3 => absurd h1 (by omega)⟩
  · exact ⟨fun h3 => absurd h1 (by omega), fun _ => (h.rop rfl).det0 (r := n - 1) (by omega) h2⟩
theorem _root_.Go.La.Red.mul {n : Nat} {A R : La.Mx Rat} {p : Nat → Nat} {d : Rat} {r : Nat} (h : La.Red n n n r A R p d) (B : La.Mx Rat) : La.det n (La.mm n A B) = La.det n A * La.det n B := by
  refine (h.rop rfl).det_mul ?_ B
  rcases h.full with ⟨h1, h2⟩ | ⟨h1, h2⟩
  · exact .inl h2
  · exact .inr ⟨n - 1, by omega, h2⟩

theorem vld_of {r c : Nat} (hr : r ≤ 1024) (hc : c ≤ 1024) : Vld (r : Int) (c : Int) (r * c) := ⟨by omega, by omega, by omega, by omega, by rw [Int.natCast_mul]⟩

end Go.Proofs.Ytlnmhjkagnfnaaa

/- Walks of matrix: echelon forms and ranks. -/
namespace Go.Proofs.Ytlnmhjkagnfnaaa
open Go.Hp
variable {G : World} {U U' : UH} {M M' : MH}

theorem Lg.take {r c k : Nat} {p : Option Addr} {cc : Nat} {A : Nat → Nat → Rat} (h : Lg r c U M (.slice p r cc) A) (hk : k ≤ r) : Lg k c U M (.slice p k cc) A := by
  obtain ⟨p1, c1, vs, h1, h0, h2, h3⟩ := h
  obtain ⟨rfl, -, rfl⟩ := Value.slice.inj h1
  exact ⟨p, cc, vs.take k, rfl, by omega, h2.take hk, fun j x hj => by
    rw [List.getElem?_take] at hj
    split at hj
    · exact h3 j x hj
    · cases hj⟩

end Go.Proofs.Ytlnmhjkagnfnaaa
