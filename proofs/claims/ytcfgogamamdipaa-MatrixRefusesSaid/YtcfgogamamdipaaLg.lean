/- Solving by what is left. No condition. -/
import Derived.Test.YtcfgogamamdipaaLf
namespace Go.La
section
variable {K : Type} [Fld K]

theorem sm_lin {m : Nat} (X N : Nat → K) (f : K) (T : Nat → K) : (sm m fun t => (X t + f * N t) * T t) = (sm m fun t => X t * T t) + f * sm m fun t => N t * T t := by
  rw [← sm_mul, ← sm_add]
  exact sm_congr fun t _ => by rw [add_mul, mul_assoc]
theorem part_step {m n : Nat} {T : Mx K} {b rest X L N : Nat → K} (hL : ∀ j, j < n → L j = sm m fun t => N t * T t j) (h : ∀ j, j < n → b j = rest j + sm m fun t => X t * T t j) (f : K) :
    ∀ j, j < n → b j = (rest j + -f * L j) + sm m fun t => (X t + f * N t) * T t j := fun j hj => by
  rw [sm_lin X N f (fun t => T t j), ← hL j hj, h j hj, neg_mul, add_assoc]
  congr 1
  rw [add_left_comm, neg_add_self, add_zero]
/-- What is left lies in the rows' span, or there is no solution. -/
theorem part_none {m n r : Nat} {T R : Mx K} {p : Nat → Nat} {b rest X : Nat → K} (hp : Ech r n R p) (hs : Same r m n R T) (h : ∀ j, j < n → b j = rest j + sm m fun t => X t * T t j) (hz : ∀ i, i < r → rest (p i) = 0) {y : Nat → K} (hy : Sol m n T b y) : ∀ j, j < n → rest j = 0 := by
  have h1 : Sp m n T rest := ⟨fun t => y t + -X t, fun j hj => by
    have h2 : (sm m fun t => (y t + -X t) * T t j) = (sm m fun t => y t * T t j) + -(sm m fun t => X t * T t j) := by
      rw [← sm_neg, ← sm_add]
      exact sm_congr fun t _ => by rw [add_mul, neg_mul]
    rw [h2, ← hy j hj, h j hj, add_assoc, add_neg_self, add_zero]⟩
  intro j hj
  rw [hp.coef (hs.sp.2 h1) hj]
  exact sm_zero fun i hi => by rw [hz i hi, zero_mul]
theorem Sol.add {m n : Nat} {T : Mx K} {b X k : Nat → K} (h : Sol m n T b X) (hk : Ker m n T k) (f : K) : Sol m n T b (fun t => X t + f * k t) := fun j hj => by
  rw [sm_lin X k f (fun t => T t j), hk j hj, mul_zero, add_zero]; exact h j hj

end
/-- Sizes that double. -/
def dbl (W k : Nat) : Nat → Nat
  | 0 => k
  | i + 1 => 2 * dbl W k i + W + 1
theorem dbl_le {W k i j : Nat} (h : i ≤ j) : dbl W k i ≤ dbl W k j := by
  induction j with
  | zero => have : i = 0 := by omega
            subst this; exact Nat.le_refl _
  | succ j ih =>
    rcases Nat.lt_or_eq_of_le h with h1 | h1
    · have := ih (by omega); show dbl W k i ≤ 2 * dbl W k j + W + 1; omega
    · rw [h1]; exact Nat.le_refl _
theorem dbl_bd (W k : Nat) : ∀ i, dbl W k i + W + 1 = 2 ^ i * (k + W + 1)
  | 0 => by simp [dbl]
  | i + 1 => by
    have := dbl_bd W k i
    have e : 2 ^ (i + 1) * (k + W + 1) = 2 * (2 ^ i * (k + W + 1)) := by rw [Nat.pow_succ, Nat.mul_comm (2 ^ i) 2, Nat.mul_assoc]
    rw [e]; show 2 * dbl W k i + W + 1 + W + 1 = _; omega
end Go.La
