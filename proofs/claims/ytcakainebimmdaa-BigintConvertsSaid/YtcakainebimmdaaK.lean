/- The guess of a digit of a quotient (Knuth, algorithm D). No program; no condition. -/
import Derived.Test.YtcakainebimmdaaN
namespace Go.Hp

structure KD (P LU u2 top L v2 v1 U V : Nat) : Prop where
  hU : U = LU + P * (u2 + 4294967296 * top)
  hV : V = L + P * (v2 + 4294967296 * v1)
  hLU : LU < P
  hL : L < P
  hu2 : u2 < 4294967296
  hv2 : v2 < 4294967296
  hv1 : 0 < v1
  hlt : U < V * 4294967296

variable {P LU u2 top L v2 v1 U V g r : Nat}

theorem KD.gV (k : KD P LU u2 top L v2 v1 U V) (g : Nat) : g * V = g * L + P * (g * v2 + 4294967296 * (g * v1)) := by
  rw [k.hV, Nat.mul_add, Nat.mul_left_comm g P, Nat.mul_add g, Nat.mul_left_comm g 4294967296]

theorem KD.start (k : KD P LU u2 top L v2 v1 U V) (h : g * v1 + r = top) (hr : r < v1) : U < (g + 1) * V := by
  have a : top + 1 ≤ (g + 1) * v1 := by rw [Nat.add_mul]; omega
  have b : P * (u2 + 4294967296 * top + 1) ≤ P * ((g + 1) * v2 + 4294967296 * ((g + 1) * v1)) := Nat.mul_le_mul_left _ (by have := k.hu2; omega)
  rw [k.gV, k.hU]
  rw [Nat.mul_add P _ 1] at b
  have := k.hLU
  omega

theorem KD.cmp (k : KD P LU u2 top L v2 v1 U V) (h : g * v1 + r = top) (hc : r * 4294967296 + u2 < g * v2) : U < g * V := by
  have b : P * (u2 + 4294967296 * top + 1) ≤ P * (g * v2 + 4294967296 * (g * v1)) := Nat.mul_le_mul_left _ (by omega)
  rw [k.gV, k.hU]
  rw [Nat.mul_add P _ 1] at b
  have := k.hLU
  omega

theorem KD.big (k : KD P LU u2 top L v2 v1 U V) (h : 4294967296 ≤ g) : U < g * V := by
  have : V * 4294967296 ≤ V * g := Nat.mul_le_mul_left _ h
  rw [Nat.mul_comm g]
  have := k.hlt
  omega

theorem KD.top_lt (k : KD P LU u2 top L v2 v1 U V) : top < (v1 + 1) * 4294967296 := by
  have h := k.hlt
  rw [k.hU, k.hV] at h
  have hp : 0 < P := by have := k.hL; omega
  have a : P * (u2 + 4294967296 * top) < P * ((v2 + 4294967296 * v1 + 1) * 4294967296) := by
    have : (L + P * (v2 + 4294967296 * v1)) * 4294967296 ≤ (P * (v2 + 4294967296 * v1 + 1)) * 4294967296 := Nat.mul_le_mul_right _ (by rw [Nat.mul_add P _ 1]; have := k.hL; omega)
    rw [Nat.mul_assoc] at this
    omega
  have := Nat.lt_of_mul_lt_mul_left a
  have := k.hv2
  omega

theorem KD.brk (k : KD P LU u2 top L v2 v1 U V) (h : g * v1 + r = top) (hr : 4294967296 ≤ r) : g < 4294967296 ∧ g * v2 ≤ r * 4294967296 + u2 := by
  have a := k.top_lt
  have b : g < 4294967296 := by
    rcases Nat.lt_or_ge g 4294967296 with h1 | h1
    · exact h1
    · exfalso
      have : 4294967296 * v1 ≤ g * v1 := Nat.mul_le_mul_right _ h1
      omega
  refine ⟨b, ?_⟩
  have : g * v2 ≤ 4294967296 * 4294967296 := Nat.mul_le_mul (by omega) (by have := k.hv2; omega)
  omega

theorem KD.fin (k : KD P LU u2 top L v2 v1 U V) (hg : g < 4294967296) (h : g * v1 + r = top) (hc : g * v2 ≤ r * 4294967296 + u2) : g * V ≤ U + V := by
  have a : P * (g * v2 + 4294967296 * (g * v1)) ≤ P * (u2 + 4294967296 * top) := Nat.mul_le_mul_left _ (by omega)
  have b : g * L ≤ 4294967296 * P := Nat.mul_le_mul (by omega) (by have := k.hL; omega)
  have c : P * 4294967296 ≤ P * (v2 + 4294967296 * v1) := Nat.mul_le_mul_left _ (by have := k.hv1; omega)
  have e := k.gV g
  have := k.hU
  have := k.hV
  omega

/-- The first guess is not far off. -/
theorem KD.small (k : KD P LU u2 top L v2 v1 U V) (h : g * v1 + r = top) (hv : 2147483648 ≤ v1) : g ≤ 4294967297 := by
  have a := k.top_lt
  rcases Nat.lt_or_ge 4294967297 g with h1 | h1
  · exfalso
    have : 4294967298 * v1 ≤ g * v1 := Nat.mul_le_mul_right _ h1
    omega
  · exact h1

theorem div_of {U V g R : Nat} (h : g * V + R = U) (hR : R < V) : U / V = g ∧ U % V = R := by
  subst h
  rw [Nat.mul_comm g V]
  exact ⟨by rw [Nat.mul_add_div (by omega), Nat.div_eq_of_lt hR, Nat.add_zero], by rw [Nat.mul_add_mod, Nat.mod_eq_of_lt hR]⟩

/-- One digit of the product is taken away. -/
theorem sub_step {D U V pw c b u x lo c' d b' g : Nat} (hv : D + g * V = U + pw * (c + b)) (hl : lo + 4294967296 * c' = g * x + c) (hd : d + lo + b = u + 4294967296 * b') :
    D + pw * d + g * (V + pw * x) = U + pw * u + pw * 4294967296 * (c' + b') := by
  have e : pw * (lo + 4294967296 * c') = pw * (g * x + c) := by rw [hl]
  have f : pw * (d + lo + b) = pw * (u + 4294967296 * b') := by rw [hd]
  simp only [Nat.mul_add, Nat.mul_assoc, Nat.mul_left_comm g pw] at *
  omega

end Go.Hp
