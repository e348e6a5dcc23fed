/- Remainders put together; primes by the sieve. No condition. -/
import Derived.Test.YtpigpikhjlmdoaaCk
namespace Go.Fq

/-- One more remainder. -/
theorem crt_step {x M r m u : Int} (hm : 1 ≤ m) (hM : 1 ≤ M) (hx0 : 0 ≤ x) (hx1 : x < M) (hu : m ∣ u * M - 1) :
    0 ≤ x + M * (((r - x) * u) % m) ∧ x + M * (((r - x) * u) % m) < M * m ∧ m ∣ x + M * (((r - x) * u) % m) - r ∧ M ∣ x + M * (((r - x) * u) % m) - x := by
  obtain ⟨t, ht⟩ : ∃ t, t = ((r - x) * u) % m := ⟨_, rfl⟩
  have h0 : 0 ≤ t := by rw [ht]; exact Int.emod_nonneg _ (by omega)
  have h1 : t < m := by rw [ht]; exact Int.emod_lt_of_pos _ (by omega)
  rw [← ht]
  have h2 : 0 ≤ M * t := Int.mul_nonneg (by omega) h0
  have h3 : M * t ≤ M * (m - 1) := Int.mul_le_mul_of_nonneg_left (by omega) (by omega)
  rw [Int.mul_sub, Int.mul_one] at h3
  refine ⟨by omega, by omega, ?_, by rw [show x + M * t - x = M * t by omega]; exact Int.dvd_mul_right ..⟩
  have h4 : m ∣ (r - x) * u - t := by rw [ht]; exact Int.dvd_self_sub_emod
  have e : x + M * t - r = (r - x) * (u * M - 1) - M * ((r - x) * u - t) := by
    rw [Int.mul_sub, Int.mul_sub, Int.mul_one, Int.mul_left_comm M (r - x) u, Int.mul_comm M u]
    omega
  rw [e]
  exact Int.dvd_sub (Int.dvd_mul_of_dvd_right hu) (Int.dvd_mul_of_dvd_right h4)
/-- Which inverse is taken does not matter. -/
theorem crt_same {a M m u v : Int} (hu : m ∣ u * M - 1) (hv : m ∣ v * M - 1) : (a * u) % m = (a * v) % m := by
  refine Int.emod_eq_emod_iff_emod_sub_eq_zero.2 (Int.emod_eq_zero_of_dvd ?_)
  have hD : v * (u * M - 1) - u * (v * M - 1) = u - v := by
    rw [Int.mul_sub, Int.mul_sub, Int.mul_one, Int.mul_one, Int.mul_left_comm v u M]
    omega
  rw [← Int.mul_sub, ← hD]
  exact Int.dvd_mul_of_dvd_right (Int.dvd_sub (Int.dvd_mul_of_dvd_right hu) (Int.dvd_mul_of_dvd_right hv))

/-- The least divisor from 2 on is prime. -/
theorem prm_ex : ∀ n : Nat, 2 ≤ n → ∃ p, Prm p ∧ p ∣ n := by
  intro n
  induction n using Nat.strongRecOn with
  | ind n ih =>
    intro h
    by_cases hp : Prm n
    · exact ⟨n, hp, Nat.dvd_refl n⟩
    · have : ∃ d, 2 ≤ d ∧ d < n ∧ n % d = 0 := by
        apply Classical.byContradiction
        intro hn
        exact hp ⟨h, fun d h1 h2 h3 => hn ⟨d, h1, h2, h3⟩⟩
      obtain ⟨d, h1, h2, h3⟩ := this
      obtain ⟨p, hp, hd⟩ := ih d h2 h1
      exact ⟨p, hp, Nat.dvd_trans hd (Nat.dvd_of_mod_eq_zero h3)⟩
/-- A number that is not prime has a prime divisor whose square is not greater. -/
theorem not_prm {n : Nat} (h : 2 ≤ n) (hn : ¬ Prm n) : ∃ p, Prm p ∧ p ∣ n ∧ p * p ≤ n := by
  have : ∃ d, 2 ≤ d ∧ d * d ≤ n ∧ n % d = 0 := by
    apply Classical.byContradiction
    intro hx
    exact hn (prm_iff.2 ⟨h, fun d h1 h2 h3 => hx ⟨d, h1, h2, h3⟩⟩)
  obtain ⟨d, h1, h2, h3⟩ := this
  obtain ⟨p, hp, hd⟩ := prm_ex d h1
  refine ⟨p, hp, Nat.dvd_trans hd (Nat.dvd_of_mod_eq_zero h3), Nat.le_trans (Nat.mul_le_mul (Nat.le_of_dvd (by omega) hd) (Nat.le_of_dvd (by omega) hd)) h2⟩

/-- The sieve when p is next: f marks what is struck out. -/
structure Sv (n p : Nat) (f : Nat → Bool) : Prop where
  no : ∀ k, k ≤ n → f k = true → ¬ Prm k
  all : ∀ q k, Prm q → q < p → q ∣ k → q * q ≤ k → k ≤ n → f k = true
theorem Sv.start {n : Nat} : Sv n 2 fun _ => false := ⟨fun _ _ h => (by cases h), fun q _ hq h => absurd hq.two (by omega)⟩
theorem Sv.prime {n p : Nat} {f : Nat → Bool} (h : Sv n p f) (h2 : 2 ≤ p) (hp : p ≤ n) : f p = false ↔ Prm p := by
  constructor
  · intro hf
    apply Classical.byContradiction
    intro hn
    obtain ⟨q, h3, h4, h5⟩ := not_prm h2 hn
    have hq : q < p := by
      have := Nat.mul_le_mul_right q h3.two
      have := h3.two
      omega
    have := h.all q p h3 hq h4 h5 hp
    rw [hf] at this
    cases this
  · intro hf
    cases hb : f p with
    | false => rfl
    | true => exact absurd hf (h.no p hp hb)
theorem Sv.skip {n p : Nat} {f : Nat → Bool} (h : Sv n p f) (hp : ¬ Prm p) : Sv n (p + 1) f :=
  ⟨h.no, fun q k h1 h2 => h.all q k h1 (by
    rcases Nat.lt_or_eq_of_le (Nat.le_of_lt_succ h2) with h3 | h3
    · exact h3
    · subst h3; exact absurd h1 hp)⟩
/-- The multiples of p before c are struck out. -/
def stk (f : Nat → Bool) (p c : Nat) : Nat → Bool := fun k => f k || (decide (p * p ≤ k) && decide (k < c) && decide (p ∣ k))
end Go.Fq
