/- Texts of this seat's own, merged: each begins with its own remark. -/
import Derived.Test.YtcfgogamamdipaaM8
import Derived.Test.YtcfgogamamdipaaM4
import Derived.Test.YtcfgogamamdipaaB38
import Derived.Test.YtcfgogamamdipaaM1
/- Walks: square roots. -/
namespace Go.Proofs.Ytcfgogamamdipaa
open Go.Hp
variable {G : World} {U : UH} {M : MH}

theorem four_mul {a b : Nat} : 4 * (a * b) ≤ (a + b) * (a + b) := by
  rcases Nat.le_total a b with h | h
  · obtain ⟨d, rfl⟩ : ∃ d, b = a + d := ⟨b - a, by omega⟩
    have : (a + (a + d)) * (a + (a + d)) = 4 * (a * (a + d)) + d * d := by grind
    omega
  · obtain ⟨d, rfl⟩ : ∃ d, a = b + d := ⟨a - b, by omega⟩
    have : (b + d + b) * (b + d + b) = 4 * ((b + d) * b) + d * d := by grind
    omega

/-- Newton's step from above stays above. -/
theorem newton {A x t : Nat} (hx : 0 < x) (h : t * t ≤ A) : t ≤ (x + A / x) / 2 := by
  rcases Nat.lt_or_ge ((x + A / x) / 2) t with hlt | hge
  · exfalso
    have h1 : A < (A / x + 1) * x := by
      have := Nat.mod_lt A hx
      have h2 := Nat.div_add_mod A x
      rw [Nat.add_mul, Nat.mul_comm (A / x)]
      omega
    have h2 : x + A / x + 1 ≤ 2 * t := by omega
    have h3 := four_mul (a := A / x + 1) (b := x)
    have h4 : (A / x + 1 + x) * (A / x + 1 + x) ≤ (2 * t) * (2 * t) := Nat.mul_le_mul (by omega) (by omega)
    have h5 : (2 * t) * (2 * t) = 4 * (t * t) := by grind
    omega
  · exact hge

theorem newton_end {A x : Nat} (h : x ≤ (x + A / x) / 2) : x * x ≤ A := by
  have h1 : x ≤ A / x := by omega
  exact Nat.le_trans (Nat.mul_le_mul_right x h1) (Nat.div_mul_le_self A x)

theorem own_zero : zeroIV.own [] 0 := ⟨[], Own.nil, Cn.nil, rfl, rfl⟩

theorem rot44 {α : Type} {R : List α} {o p q r x y z u : α} : (o :: p :: q :: r :: x :: y :: z :: u :: R).Perm (x :: y :: z :: u :: o :: p :: q :: r :: R) := perm4 (D := [o, p, q, r]) (M := R)

end Go.Proofs.Ytcfgogamamdipaa

/- Walks of the reference of layer 1: square roots. -/
namespace Go.Proofs.Ytcfgogamamdipaa
open Go.Hp
variable {G : World} {U : UH} {M : MH}

theorem sign_le {z : Int} : z.sign ≤ 0 ↔ z ≤ 0 := by
  constructor
  · intro h
    rcases Int.lt_trichotomy z 0 with h1 | h1 | h1
    · omega
    · omega
    · rw [Int.sign_eq_one_of_pos h1] at h; omega
  · intro h
    rcases Int.lt_trichotomy z 0 with h1 | h1 | h1
    · rw [Int.sign_eq_neg_one_of_neg h1]; omega
    · rw [h1]; decide
    · omega

end Go.Proofs.Ytcfgogamamdipaa
