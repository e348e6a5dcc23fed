/- Trial division; the division that finds an inverse. No condition. -/
import Derived.Test.YtpigpikhjlmdoaaCe
namespace Go.Fq

theorem prm_iff {n : Nat} : Prm n ↔ 2 ≤ n ∧ ∀ d, 2 ≤ d → d * d ≤ n → n % d ≠ 0 := by
  constructor
  · intro h
    refine ⟨h.two, fun d h1 h2 => h.div d h1 ?_⟩
    have := Nat.mul_le_mul_right d h1
    omega
  · intro ⟨h0, h⟩
    refine ⟨h0, fun d h1 h2 h3 => ?_⟩
    by_cases h4 : d * d ≤ n
    · exact h d h1 h4 h3
    · obtain ⟨k, hk⟩ := Nat.dvd_of_mod_eq_zero h3
      have hk2 : 2 ≤ k := by
        rcases Nat.lt_or_ge k 2 with h5 | h5
        · have := Nat.mul_le_mul_left d (show k ≤ 1 by omega)
          omega
        · exact h5
      have hkd : k < d := by
        rcases Nat.lt_or_ge k d with h5 | h5
        · exact h5
        · have := Nat.mul_le_mul_left d h5
          omega
      have h6 : k * k ≤ n := by
        have := Nat.mul_le_mul_right k (Nat.le_of_lt hkd)
        omega
      exact h k hk2 h6 (by rw [hk]; exact Nat.mul_mod_left d k)

/-- Halfway: g = u a and r = v a modulo m; the signs of u and v alternate. -/
structure Eu (a m g r u v e : Int) : Prop where
  e1 : e = 1 ∨ e = -1
  g1 : 0 ≤ g
  r0 : 0 ≤ r
  eq : u * r - v * g = e * m
  up : 0 ≤ e * u
  vp : e * v ≤ 0
  cg : m ∣ g - u * a
  cr : m ∣ r - v * a
  dv : ∀ d : Int, d ∣ g → d ∣ r → d ∣ a ∧ d ∣ m
  ub : -m ≤ u ∧ u ≤ m
theorem Eu.start {a m : Int} (h0 : 0 ≤ a) (h1 : 1 ≤ m) : Eu a m a m 1 0 1 :=
  ⟨.inl rfl, h0, by omega, by omega, by omega, by omega, by rw [Int.one_mul, Int.sub_self]; exact Int.dvd_zero m, by rw [Int.zero_mul, Int.sub_zero]; exact Int.dvd_refl m, fun _ h1 h2 => ⟨h1, h2⟩, by omega⟩
theorem Eu.vb {a m g r u v e : Int} (h : Eu a m g r u v e) (hg : 1 ≤ g) : -m ≤ v ∧ v ≤ m := by
  have h3 := h.eq
  have h4 := h.vp
  have h5 := h.up
  rcases h.e1 with e1 | e1 <;> subst e1
  · have h1 := Int.mul_nonneg (show 0 ≤ u by omega) h.r0
    have h2 := Int.mul_le_mul_of_nonneg_left hg (show 0 ≤ -v by omega)
    rw [Int.neg_mul, Int.neg_mul, Int.mul_one] at h2
    omega
  · have h1 := Int.mul_nonneg (show 0 ≤ -u by omega) h.r0
    have h2 := Int.mul_le_mul_of_nonneg_left hg (show 0 ≤ v by omega)
    rw [Int.neg_mul] at h1
    rw [Int.mul_one] at h2
    omega
theorem Eu.step {a m g r u v e q s : Int} (h : Eu a m g r u v e) (hr : 1 ≤ r) (hq : g = q * r + s) (hs0 : 0 ≤ s) (hq0 : 0 ≤ q) (hv : -m ≤ v ∧ v ≤ m) : Eu a m r s v (u - q * v) (-e) := by
  refine ⟨by rcases h.e1 with e | e <;> omega, by omega, hs0, ?_, ?_, ?_, h.cr, ?_, fun d h1 h2 => h.dv d (by rw [hq]; exact Int.dvd_add (Int.dvd_mul_of_dvd_right h1) h2) h1, hv⟩
  · have h1 := h.eq
    rw [hq, Int.mul_add] at h1
    rw [Int.sub_mul, Int.neg_mul, Int.mul_left_comm v q r] at *
    rw [Int.mul_assoc q v r]
    omega
  · have := h.vp
    rw [Int.neg_mul]
    omega
  · rw [Int.neg_mul, Int.mul_sub, Int.mul_left_comm]
    have h1 := Int.mul_nonneg hq0 (show 0 ≤ -(e * v) by have := h.vp; omega)
    rw [Int.mul_neg] at h1
    have := h.up
    omega
  · have e1 : s - (u - q * v) * a = (g - u * a) - q * (r - v * a) := by
      rw [hq, Int.mul_sub, Int.sub_mul, Int.mul_assoc]
      omega
    rw [e1]
    exact Int.dvd_sub h.cg (Int.dvd_mul_of_dvd_right h.cr)
/-- At the end, modulo a prime: the inverse. -/
theorem Eu.inv {P : Pm} {a : Fp P} {g u v e : Int} (h : Eu (a.v : Int) (P.1 : Int) g 0 u v e) (ha : a ≠ 0) : g = 1 ∧ of P u = a⁻¹ := by
  obtain ⟨h1, h2⟩ := h.dv g (Int.dvd_refl g) (Int.dvd_zero g)
  have hp := P.2.two
  have ha0 : a.v ≠ 0 := fun e => ha (v_eq_zero.1 e)
  have hal := a.lt
  have hg0 := h.g1
  obtain ⟨n, rfl⟩ : ∃ n : Nat, g = (n : Int) := ⟨g.toNat, by omega⟩
  have h3 : n ∣ a.v := Int.natCast_dvd_natCast.1 h1
  have h4 : n ∣ P.1 := Int.natCast_dvd_natCast.1 h2
  have hn : n ≤ a.v := Nat.le_of_dvd (by omega) h3
  have hn0 : n ≠ 0 := fun e => by subst e; exact ha0 (Nat.eq_zero_of_zero_dvd h3)
  have hn1 : n = 1 := by
    rcases Nat.lt_or_ge n 2 with h5 | h5
    · omega
    · exact absurd (Nat.mod_eq_zero_of_dvd h4) (P.2.div n h5 (by omega))
  subst hn1
  refine ⟨rfl, ?_⟩
  symm
  apply inv_eq
  have h5 := h.cg
  obtain ⟨k, hk⟩ := h5
  have h6 : of P (((1 : Nat) : Int)) = of P (u * (a.v : Int)) := by
    have : (((1 : Nat) : Int)) = u * (a.v : Int) + (P.1 : Int) * k := by omega
    rw [this, of_sub_mul]
  rw [of_mul, of_v] at h6
  rw [La.mul_comm, ← h6]
  rfl
end Go.Fq
