/- Remainders put together; primes by the sieve. No condition. -/
import Derived.Test.YtpigpikhjlmdoaaCk
namespace Go.Fq

/-- The least divisor from 2 on is prime. -/
theorem prm_ex : ∀ n : Nat, 2 ≤ n → ∃ p, Prm p ∧ p ∣ n := by
  intro n
  induction n using Nat.strongRecOn with
  | ind n ih =>
    intro h
    by_cases hp : Prm n
    · exact ⟨n, hp, Nat.dvd_refl n⟩
    · have : ∃ d, 2 ≤ d ∧ d < n ∧ n % d = 0 := by
        apply Classical.byContradiction
        intro hn
        exact hp ⟨h, fun d h1 h2 h3 => hn ⟨d, h1, h2, h3⟩⟩
      obtain ⟨d, h1, h2, h3⟩ := this
      obtain ⟨p, hp, hd⟩ := ih d h2 h1
      exact ⟨p, hp, Nat.dvd_trans hd (Nat.dvd_of_mod_eq_zero h3)⟩
/-- A number that is not prime has a prime divisor whose square is not greater. -/
theorem not_prm {n : Nat} (h : 2 ≤ n) (hn : ¬ Prm n) : ∃ p, Prm p ∧ p ∣ n ∧ p * p ≤ n := by
  have : ∃ d, 2 ≤ d ∧ d * d ≤ n ∧ n % d = 0 := by
    apply Classical.byContradiction
    intro hx
    exact hn (prm_iff.2 ⟨h, fun d h1 h2 h3 => hx ⟨d, h1, h2, h3⟩⟩)
  obtain ⟨d, h1, h2, h3⟩ := this
  obtain ⟨p, hp, hd⟩ := prm_ex d h1
  refine ⟨p, hp, Nat.dvd_trans hd (Nat.dvd_of_mod_eq_zero h3), Nat.le_trans (Nat.mul_le_mul (Nat.le_of_dvd (by omega) hd) (Nat.le_of_dvd (by omega) hd)) h2⟩

/-- The sieve when p is next: f marks what is struck out. -/
structure Sv (n p : Nat) (f : Nat → Bool) : Prop where
  no : ∀ k, k ≤ n → f k = true → ¬ Prm k
  all : ∀ q k, Prm q → q < p → q ∣ k → q * q ≤ k → k ≤ n → f k = true
theorem Sv.start {n : Nat} : Sv n 2 fun _ => false := ⟨fun _ _ h => (by cases h), fun q _ hq h => absurd hq.two (by omega)⟩
theorem Sv.prime {n p : Nat} {f : Nat → Bool} (h : Sv n p f) (h2 : 2 ≤ p) (hp : p ≤ n) : f p = false ↔ Prm p := by
  constructor
  · intro hf
    apply Classical.byContradiction
    intro hn
    obtain ⟨q, h3, h4, h5⟩ := not_prm h2 hn
    have hq : q < p := by
      have := Nat.mul_le_mul_right q h3.two
      have := h3.two
      omega
    have := h.all q p h3 hq h4 h5 hp
    rw [hf] at this
    cases this
  · intro hf
    cases hb : f p with
    | false => rfl
    | true => exact absurd hf (h.no p hp hb)
theorem Sv.skip {n p : Nat} {f : Nat → Bool} (h : Sv n p f) (hp : ¬ Prm p) : Sv n (p + 1) f :=
  ⟨h.no, fun q k h1 h2 => h.all q k h1 (by
    rcases Nat.lt_or_eq_of_le (Nat.le_of_lt_succ h2) with h3 | h3
    · exact h3
    · subst h3; exact absurd h1 hp)⟩
/-- The multiples of p before c are struck out. -/
def stk (f : Nat → Bool) (p c : Nat) : Nat → Bool := fun k => f k || (decide (p * p ≤ k) && decide (k < c) && decide (p ∣ k))
end Go.Fq
