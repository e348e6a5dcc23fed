/- Residues modulo a prime: a field. No condition. -/
import Derived.Test.YtpigpikhjlmdoaaCd
namespace Go.Fq
open Go.La (Fld)

/-- A prime: at least 2, and nothing between divides it. -/
structure Prm (p : Nat) : Prop where
  two : 2 ≤ p
  div : ∀ d, 2 ≤ d → d < p → p % d ≠ 0
abbrev Pm := {p : Nat // Prm p}
structure Fp (P : Pm) where
  v : Nat
  lt : v < P.1
variable {P : Pm}
theorem Fp.ext {a b : Fp P} (h : a.v = b.v) : a = b := by cases a; cases b; simp only at h; subst h; rfl
theorem pos (P : Pm) : (0 : Int) < (P.1 : Int) := by have := P.2.two; omega
/-- The residue of an integer. -/
def of (P : Pm) (z : Int) : Fp P := ⟨(z % (P.1 : Int)).toNat, by
  have h1 := Int.emod_nonneg z (show (P.1 : Int) ≠ 0 by have := pos P; omega)
  have h2 := Int.emod_lt_of_pos z (pos P)
  omega⟩
theorem of_val (z : Int) : ((of P z).v : Int) = z % (P.1 : Int) := by
  have h1 := Int.emod_nonneg z (show (P.1 : Int) ≠ 0 by have := pos P; omega)
  show ((z % (P.1 : Int)).toNat : Int) = _
  omega
theorem of_eq {x y : Int} : of P x = of P y ↔ x % (P.1 : Int) = y % (P.1 : Int) := by
  constructor
  · intro h
    rw [← of_val, ← of_val, h]
  · intro h
    refine Fp.ext ?_
    have h1 := of_val (P := P) x
    have h2 := of_val (P := P) y
    omega
theorem of_v (a : Fp P) : of P (a.v : Int) = a := by
  refine Fp.ext ?_
  have h1 := of_val (P := P) (a.v : Int)
  rw [Int.emod_eq_of_lt (by omega) (by have := a.lt; omega)] at h1
  omega
theorem of_sub_mul (x k : Int) : of P (x + (P.1 : Int) * k) = of P x := of_eq.2 (by rw [Int.add_mul_emod_self_left])

instance : Zero (Fp P) := ⟨of P 0⟩
instance : One (Fp P) := ⟨of P 1⟩
instance : Add (Fp P) := ⟨fun a b => of P ((a.v : Int) + b.v)⟩
instance : Mul (Fp P) := ⟨fun a b => of P ((a.v : Int) * b.v)⟩
instance : Neg (Fp P) := ⟨fun a => of P (-(a.v : Int))⟩
theorem of_zero : of P 0 = 0 := rfl
theorem of_one : of P 1 = 1 := rfl
theorem of_add (x y : Int) : of P (x + y) = of P x + of P y := by
  show _ = of P (((of P x).v : Int) + (of P y).v)
  rw [of_val, of_val]
  exact of_eq.2 (by rw [Int.add_emod])
theorem of_mul (x y : Int) : of P (x * y) = of P x * of P y := by
  show _ = of P (((of P x).v : Int) * (of P y).v)
  rw [of_val, of_val]
  exact of_eq.2 (by rw [Int.mul_emod])
theorem of_neg (x : Int) : of P (-x) = -of P x := by
  show _ = of P (-((of P x).v : Int))
  rw [of_val]
  exact of_eq.2 (by rw [Int.neg_emod_eq_sub_emod, Int.neg_emod_eq_sub_emod, Int.sub_emod, Int.sub_emod (P.1 : Int) (x % _), Int.emod_emod_of_dvd x (Int.dvd_refl _)])
theorem v_zero : (0 : Fp P).v = 0 := by
  have := of_val (P := P) 0
  rw [Int.zero_emod] at this
  have h : (of P 0).v = 0 := by omega
  exact h
theorem v_one : (1 : Fp P).v = 1 := by
  have h1 := of_val (P := P) 1
  have := P.2.two
  rw [Int.emod_eq_of_lt (by omega) (by omega)] at h1
  have h : (of P 1).v = 1 := by omega
  exact h
theorem v_eq_zero {a : Fp P} : a.v = 0 ↔ a = 0 := ⟨fun h => Fp.ext (by rw [h, v_zero]), fun h => by rw [h, v_zero]⟩

theorem inv_ex (P : Pm) : ∀ a : Nat, 0 < a → a < P.1 → ∃ x : Int, ((a : Int) * x) % (P.1 : Int) = 1 := by
  intro a
  induction a using Nat.strongRecOn with
  | ind a ih =>
    intro h0 h1
    have h2 := P.2.two
    by_cases e : a = 1
    · subst e
      exact ⟨1, by rw [Int.emod_eq_of_lt (by omega) (by omega)]; rfl⟩
    · have hr := P.2.div a (by omega) h1
      obtain ⟨x, hx⟩ := ih (P.1 % a) (Nat.mod_lt _ h0) (by omega) (by have := Nat.mod_lt P.1 h0; omega)
      refine ⟨-((P.1 / a : Nat) : Int) * x, ?_⟩
      rw [← hx]
      have e1 : ((P.1 % a : Nat) : Int) = (P.1 : Int) - (a : Int) * ((P.1 / a : Nat) : Int) := by
        have := Nat.div_add_mod P.1 a
        rw [← Int.natCast_mul]
        omega
      have e2 : (P.1 : Int) * x + (a : Int) * (-((P.1 / a : Nat) : Int) * x) = ((P.1 % a : Nat) : Int) * x := by
        rw [e1, Int.sub_mul, Int.neg_mul, Int.mul_neg, Int.mul_assoc]
        omega
      rw [← e2, Int.add_comm, Int.add_mul_emod_self_left]

instance : Nonempty (Fp P) := ⟨0⟩
noncomputable instance : Inv (Fp P) := ⟨fun a => Classical.epsilon fun x : Fp P => a * x = 1⟩
theorem inv_mul' (a : Fp P) (h : a ≠ 0) : a⁻¹ * a = 1 := by
  have hex : ∃ x : Fp P, a * x = 1 := by
    obtain ⟨x, hx⟩ := inv_ex P a.v (by
      rcases Nat.eq_zero_or_pos a.v with h0 | h0
      · exact absurd (v_eq_zero.1 h0) h
      · exact h0) a.lt
    refine ⟨of P x, ?_⟩
    have := of_mul (P := P) (a.v : Int) x
    rw [of_v] at this
    rw [← this, ← of_one]
    have h2 := P.2.two
    exact of_eq.2 (by rw [hx, Int.emod_eq_of_lt (by omega) (by omega)])
  have hc : a * a⁻¹ = 1 := Classical.epsilon_spec hex
  show of P ((a⁻¹.v : Int) * (a.v : Int)) = 1
  rw [Int.mul_comm]
  exact hc

noncomputable instance : Fld (Fp P) where
  add_assoc a b c := by rw [← of_v a, ← of_v b, ← of_v c, ← of_add, ← of_add, ← of_add, ← of_add, Int.add_assoc]
  add_comm a b := by rw [← of_v a, ← of_v b, ← of_add, ← of_add, Int.add_comm]
  zero_add a := by rw [← of_v a, ← of_zero, ← of_add, Int.zero_add]
  neg_add a := by rw [← of_v a, ← of_neg, ← of_add, Int.add_left_neg, of_zero]
  mul_assoc a b c := by rw [← of_v a, ← of_v b, ← of_v c, ← of_mul, ← of_mul, ← of_mul, ← of_mul, Int.mul_assoc]
  mul_comm a b := by rw [← of_v a, ← of_v b, ← of_mul, ← of_mul, Int.mul_comm]
  one_mul a := by rw [← of_v a, ← of_one, ← of_mul, Int.one_mul]
  mul_add a b c := by rw [← of_v a, ← of_v b, ← of_v c, ← of_add, ← of_mul, ← of_mul, ← of_mul, ← of_add, Int.mul_add]
  inv_mul := inv_mul'
  one_ne h := by
    have h1 := v_one (P := P)
    have h2 := v_zero (P := P)
    have h3 : (1 : Fp P).v = (0 : Fp P).v := congrArg Fp.v h
    omega
theorem inv_eq {a x : Fp P} (h : a * x = 1) : a⁻¹ = x := by
  have ha : a ≠ 0 := fun e => La.one_ne (K := Fp P) (by rw [← h, e, La.zero_mul])
  exact La.mul_left_can ha (by rw [h, La.mul_inv a ha])
end Go.Fq
