/- Texts of this seat's own, merged: each begins with its own remark. -/
import Derived.Test.YtpigpikhjlmdoaaGreatM43
import Derived.Test.YtpigpikhjlmdoaaGreatM10
import Derived.Test.YtpigpikhjlmdoaaGreatB38
import Derived.Test.YtpigpikhjlmdoaaGreatM40
import Derived.Test.YtpigpikhjlmdoaaGreatM2
import Derived.Test.YtpigpikhjlmdoaaGreatM4
import Derived.Test.YtpigpikhjlmdoaaGreatM19
import Derived.Test.YtpigpikhjlmdoaaGreatM15
import Derived.Test.YtpigpikhjlmdoaaGreatM5
/- Walks of modmatrix: remainders put together. -/
namespace Go.Proofs.YtpigpikhjlmdoaaGreat
open Go.Hp
variable {G : World} {U U' : UH} {M : MH}
end Go.Proofs.YtpigpikhjlmdoaaGreat

/- Remainders put together one after another: what both ways of doing so agree on. No condition. -/
namespace Go.Fq
inductive Ch (r m : Nat → Int) : Nat → Int → Int → Prop where
  | zero : Ch r m 0 0 1
  | succ {i : Nat} {x M u : Int} : Ch r m i x M → 1 ≤ m i → Int.gcd M (m i) = 1 → m i ∣ u * M - 1 → Ch r m (i + 1) (x + M * (((r i - x) * u) % m i)) (M * m i)
variable {r m : Nat → Int} {i j : Nat} {x M : Int}
inductive Out (r m : Nat → Int) (n : Nat) : Int → Int → Int → Prop where
  | ok {x M : Int} : Ch r m n x M → Out r m n x M 0
  | range {i : Nat} {x M : Int} : i < n → Ch r m i x M → m i < 1 → Out r m n 0 0 2
  | coprime {i : Nat} {x M : Int} : i < n → Ch r m i x M → 1 ≤ m i → Int.gcd M (m i) ≠ 1 → Out r m n 0 0 9
theorem Eu.fin {a m g u w e : Int} (h : Eu (a % m) m g 0 u w e) : (g = 1 → Int.gcd a m = 1 ∧ m ∣ (u % m) * a - 1) ∧ (g ≠ 1 → Int.gcd a m ≠ 1) := by
  have ha : m ∣ a - a % m := Int.dvd_self_sub_emod
  constructor
  · rintro rfl
    have hd : ((Int.gcd a m : Nat) : Int) ∣ 1 := by
      have h1 := Int.gcd_dvd_left a m
      have h2 := Int.gcd_dvd_right a m
      have h3 : ((Int.gcd a m : Nat) : Int) ∣ a % m := by
        have := Int.dvd_sub h1 (Int.dvd_trans h2 ha)
        rwa [show a - (a - a % m) = a % m by omega] at this
      have := Int.dvd_add (Int.dvd_trans h2 h.cg) (show _ ∣ u * (a % m) from Int.dvd_mul_of_dvd_right h3)
      rwa [Int.sub_add_cancel] at this
    refine ⟨by have := Int.le_of_dvd (by decide) hd; have h0 : Int.gcd a m ≠ 0 := fun e => by rw [e] at hd; exact absurd (Int.zero_dvd.1 hd) (by decide)
               omega, ?_⟩
    have hu : m ∣ u - u % m := Int.dvd_self_sub_emod
    have e1 : (u % m) * a - 1 = u * (a - a % m) - (1 - u * (a % m)) - (u - u % m) * a := by
      rw [Int.mul_sub, Int.sub_mul]
      omega
    rw [e1]
    exact Int.dvd_sub (Int.dvd_sub (Int.dvd_mul_of_dvd_right ha) h.cg) (Int.dvd_mul_of_dvd_left hu)
  · intro h1 h2
    obtain ⟨k1, k2⟩ := h.dv g (Int.dvd_refl g) (Int.dvd_zero g)
    have k3 : g ∣ a := by
      have := Int.dvd_add (Int.dvd_trans k2 ha) k1
      rwa [Int.sub_add_cancel] at this
    have k4 : g ∣ ((Int.gcd a m : Nat) : Int) := Int.dvd_coe_gcd k3 k2
    rw [h2] at k4
    have := Int.le_of_dvd (by decide) k4
    have h0 := h.g1
    have : g ≠ 0 := fun e => by subst e; exact absurd (Int.zero_dvd.1 k4) (by decide)
    omega
end Go.Fq
namespace Go.Proofs.YtpigpikhjlmdoaaGreat
open Go.Hp Go.Fq
variable {r m : Nat → Int} {i : Nat} {x M : Int}
end Go.Proofs.YtpigpikhjlmdoaaGreat

/- Walks of modmatrix: the Chinese remainders. -/
namespace Go.Proofs.YtpigpikhjlmdoaaGreat
open Go.Hp Go.Fq
variable {G : World} {U U' : UH} {M : MH}
def Xw (s : Nat) (U : UH) (v : Value) (z : Int) : Prop := ∃ x : IV, v = x.v ∧ x.rep U [] z ∧ x.n ≤ s
end Go.Proofs.YtpigpikhjlmdoaaGreat

/- Walks of the reference of layer 13: inverses modulo an integer. -/
namespace Go.Proofs.YtpigpikhjlmdoaaGreat
open Go.Hp Go.Fq
variable {G : World} {U U' : UH} {M : MH}
end Go.Proofs.YtpigpikhjlmdoaaGreat

/- Walks of the reference of layer 13: the Chinese remainders. -/
namespace Go.Proofs.YtpigpikhjlmdoaaGreat
open Go.Hp Go.Fq
variable {G : World} {U U' : UH} {M : MH}
end Go.Proofs.YtpigpikhjlmdoaaGreat
