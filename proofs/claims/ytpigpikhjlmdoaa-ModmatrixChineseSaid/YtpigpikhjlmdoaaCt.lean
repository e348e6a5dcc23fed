/- Remainders put together one after another: what both ways of doing so agree on. No condition. -/
import Derived.Test.YtpigpikhjlmdoaaCl
import Derived.Test.YtpigpikhjlmdoaaM2
namespace Go.Fq

/-- After i remainders. -/
inductive Ch (r m : Nat → Int) : Nat → Int → Int → Prop where
  | zero : Ch r m 0 0 1
  | succ {i : Nat} {x M u : Int} : Ch r m i x M → 1 ≤ m i → Int.gcd M (m i) = 1 → m i ∣ u * M - 1 → Ch r m (i + 1) (x + M * (((r i - x) * u) % m i)) (M * m i)
variable {r m : Nat → Int} {i j : Nat} {x M : Int}
theorem Ch.fact (h : Ch r m i x M) : 1 ≤ M ∧ 0 ≤ x ∧ x < M ∧ (∀ j, j < i → m j ∣ M) ∧ ∀ j, j < i → 1 ≤ m j ∧ m j ∣ x - r j := by
  induction h with
  | zero => exact ⟨by decide, by decide, by decide, fun j hj => absurd hj (Nat.not_lt_zero j), fun j hj => absurd hj (Nat.not_lt_zero j)⟩
  | @succ i x M u _ h1 h2 h3 ih =>
    obtain ⟨a1, a2, a3, a4, a5⟩ := ih
    obtain ⟨b1, b2, b3, b4⟩ := crt_step (r := r i) h1 a1 a2 a3 h3
    have hM := Int.mul_le_mul a1 h1 (by decide) (by omega)
    refine ⟨by omega, b1, b2, fun j hj => ?_, fun j hj => ?_⟩
    · rcases Nat.lt_or_eq_of_le (Nat.le_of_lt_succ hj) with h | rfl
      · exact Int.dvd_mul_of_dvd_left (a4 j h)
      · exact Int.dvd_mul_left ..
    · rcases Nat.lt_or_eq_of_le (Nat.le_of_lt_succ hj) with h | rfl
      · refine ⟨(a5 j h).1, ?_⟩
        have := Int.dvd_add (Int.dvd_trans (a4 j h) b4) (a5 j h).2
        rwa [show (x + M * (((r i - x) * u) % m i) - x) + (x - r j) = x + M * (((r i - x) * u) % m i) - r j by omega] at this
      · exact ⟨h1, b3⟩
theorem Ch.upto (h : Ch r m i x M) : ∀ j, j < i → ∃ x' M', Ch r m j x' M' ∧ 1 ≤ m j ∧ Int.gcd M' (m j) = 1 := by
  induction h with
  | zero => exact fun j hj => absurd hj (Nat.not_lt_zero j)
  | @succ i x M u h h1 h2 _ ih =>
    intro j hj
    rcases Nat.lt_or_eq_of_le (Nat.le_of_lt_succ hj) with h' | rfl
    · exact ih j h'
    · exact ⟨x, M, h, h1, h2⟩
theorem Ch.uniq (h : Ch r m i x M) : ∀ {x' M' : Int}, Ch r m i x' M' → x = x' ∧ M = M' := by
  induction h with
  | zero => intro x' M' h'; cases h'; exact ⟨rfl, rfl⟩
  | @succ i x M u h h1 h2 h3 ih =>
    intro x' M' h'
    cases h' with
    | succ k k1 k2 k3 =>
      obtain ⟨rfl, rfl⟩ := ih k
      exact ⟨by rw [crt_same h3 k3], rfl⟩
/-- The outcome: OK, a modulus out of range, a modulus not coprime to those before it. -/
inductive Out (r m : Nat → Int) (n : Nat) : Int → Int → Int → Prop where
  | ok {x M : Int} : Ch r m n x M → Out r m n x M 0
  | range {i : Nat} {x M : Int} : i < n → Ch r m i x M → m i < 1 → Out r m n 0 0 2
  | coprime {i : Nat} {x M : Int} : i < n → Ch r m i x M → 1 ≤ m i → Int.gcd M (m i) ≠ 1 → Out r m n 0 0 9
theorem Out.uniq {n : Nat} {x' M' e e' : Int} (h : Out r m n x M e) (h' : Out r m n x' M' e') : x = x' ∧ M = M' ∧ e = e' := by
  have key : ∀ {i j : Nat} {x M x' M' : Int}, Ch r m i x M → Ch r m j x' M' → ¬ (1 ≤ m i ∧ Int.gcd M (m i) = 1) → j ≤ i := by
    intro i j x M x' M' h h' hn
    rcases Nat.lt_or_ge i j with hl | hl
    · obtain ⟨x1, M1, k1, k2, k3⟩ := h'.upto i hl
      obtain ⟨rfl, rfl⟩ := h.uniq k1
      exact absurd ⟨k2, k3⟩ hn
    · exact hl
  cases h with
  | ok h =>
    cases h' with
    | ok h' => obtain ⟨a, b⟩ := h.uniq h'; exact ⟨a, b, rfl⟩
    | range hi k k1 => have := key k h (by omega); omega
    | coprime hi k k1 k2 => have := key k h (by omega); omega
  | range hi h h1 =>
    cases h' with
    | ok h' => have := key h h' (by omega); omega
    | range _ _ _ => exact ⟨rfl, rfl, rfl⟩
    | coprime hi' k k1 k2 =>
      have a := key h k (by omega)
      have b := key k h (by omega)
      obtain rfl := Nat.le_antisymm a b
      omega
  | coprime hi h h1 h2 =>
    cases h' with
    | ok h' => have := key h h' (by omega); omega
    | range hi' k k1 =>
      have a := key h k (by omega)
      have b := key k h (by omega)
      obtain rfl := Nat.le_antisymm a b
      omega
    | coprime _ _ _ _ => exact ⟨rfl, rfl, rfl⟩
/-- What Euclid's algorithm ends with. -/
theorem Eu.fin {a m g u w e : Int} (h : Eu (a % m) m g 0 u w e) : (g = 1 → Int.gcd a m = 1 ∧ m ∣ (u % m) * a - 1) ∧ (g ≠ 1 → Int.gcd a m ≠ 1) := by
  have ha : m ∣ a - a % m := Int.dvd_self_sub_emod
  constructor
  · rintro rfl
    have hd : ((Int.gcd a m : Nat) : Int) ∣ 1 := by
      have h1 := Int.gcd_dvd_left a m
      have h2 := Int.gcd_dvd_right a m
      have h3 : ((Int.gcd a m : Nat) : Int) ∣ a % m := by
        have := Int.dvd_sub h1 (Int.dvd_trans h2 ha)
        rwa [show a - (a - a % m) = a % m by omega] at this
      have := Int.dvd_add (Int.dvd_trans h2 h.cg) (show _ ∣ u * (a % m) from Int.dvd_mul_of_dvd_right h3)
      rwa [Int.sub_add_cancel] at this
    refine ⟨by have := Int.le_of_dvd (by decide) hd; have h0 : Int.gcd a m ≠ 0 := fun e => by rw [e] at hd; exact absurd (Int.zero_dvd.1 hd) (by decide)
               omega, ?_⟩
    have hu : m ∣ u - u % m := Int.dvd_self_sub_emod
    have e1 : (u % m) * a - 1 = u * (a - a % m) - (1 - u * (a % m)) - (u - u % m) * a := by
      rw [Int.mul_sub, Int.sub_mul]
      omega
    rw [e1]
    exact Int.dvd_sub (Int.dvd_sub (Int.dvd_mul_of_dvd_right ha) h.cg) (Int.dvd_mul_of_dvd_left hu)
  · intro h1 h2
    obtain ⟨k1, k2⟩ := h.dv g (Int.dvd_refl g) (Int.dvd_zero g)
    have k3 : g ∣ a := by
      have := Int.dvd_add (Int.dvd_trans k2 ha) k1
      rwa [Int.sub_add_cancel] at this
    have k4 : g ∣ ((Int.gcd a m : Nat) : Int) := Int.dvd_coe_gcd k3 k2
    rw [h2] at k4
    have := Int.le_of_dvd (by decide) k4
    have h0 := h.g1
    have : g ≠ 0 := fun e => by subst e; exact absurd (Int.zero_dvd.1 k4) (by decide)
    omega
end Go.Fq
namespace Go.Proofs.Ytpigpikhjlmdoaa
open Go.Hp Go.Fq
variable {r m : Nat → Int} {i : Nat} {x M : Int}
/-- Sizes. -/
theorem ch_sz {k : Nat} (h : Ch r m i x M) (hm : ∀ j, j < i → Sz (m j) k) : Sz M (k * i + 1) ∧ Sz x (k * i + 1) := by
  have : Sz M (k * i + 1) := by
    induction h with
    | zero => unfold Sz; rw [Nat.mul_zero]; decide
    | @succ i x M u h h1 h2 h3 ih =>
      have a := ih fun j hj => hm j (by omega)
      exact (a.mul (hm i (by omega))).mono (by rw [Nat.mul_add]; omega)
  refine ⟨this, ?_⟩
  obtain ⟨a, b, c, _⟩ := h.fact
  exact Nat.lt_of_le_of_lt (show x.natAbs ≤ M.natAbs by omega) this
end Go.Proofs.Ytpigpikhjlmdoaa
