/- Fractions whose denominators a prime does not divide; ranks of residues. No condition. -/
import Derived.Test.YtpigpikhjlmdoaaGreatM40
import Derived.Test.YtpigpikhjlmdoaaGreatM19
namespace Go.Fq
open Go.La (Fld Mx setr setr_at setr_ne)
variable {P : Pm}

/-- The residue of a fraction. -/
noncomputable def ofQ (P : Pm) (q : Rat) : Fp P := of P q.num * (of P (q.den : Int))⁻¹
def Loc (P : Pm) (q : Rat) : Prop := of P (q.den : Int) ≠ 0
theorem q_den (q : Rat) : q * ((q.den : Int) : Rat) = (q.num : Rat) := by
  have h0 : ((q.den : Int) : Rat) ≠ 0 := by
    rw [Rat.intCast_natCast]
    have := q.den_nz
    intro e
    exact this (Rat.natCast_eq_zero_iff.1 e)
  have h := Rat.num_divInt_den q
  rw [Rat.divInt_eq_div] at h
  have h1 : (q.num : Rat) / ((q.den : Int) : Rat) * ((q.den : Int) : Rat) = (q.num : Rat) := Rat.div_mul_cancel h0
  rw [h] at h1
  exact h1
theorem num_mul {q : Rat} {a b : Int} (h : q * (b : Rat) = (a : Rat)) : q.num * b = a * (q.den : Int) := by
  refine Rat.intCast_inj.1 ?_
  rw [Rat.intCast_mul, Rat.intCast_mul, ← q_den q, ← h]
  grind
theorem den_dvd {q : Rat} {a b : Int} (h : q * (b : Rat) = (a : Rat)) : (q.den : Int) ∣ b := by
  have h1 := num_mul h
  have h2 : q.den ∣ q.num.natAbs * b.natAbs := by
    rw [← Int.natAbs_mul, h1, Int.natAbs_mul]
    exact Nat.dvd_mul_left ..
  have h3 := (Nat.Coprime.symm q.reduced).dvd_of_dvd_mul_left h2
  exact Int.natAbs_dvd_natAbs.1 (by simpa using h3)
theorem ofQ_eq {q : Rat} {a b : Int} (h : q * (b : Rat) = (a : Rat)) (hb : of P b ≠ 0) : Loc P q ∧ ofQ P q = of P a * (of P b)⁻¹ := by
  have hl : Loc P q := by
    obtain ⟨k, hk⟩ := den_dvd h
    intro e
    exact hb (by rw [hk, of_mul, e, La.zero_mul])
  refine ⟨hl, ?_⟩
  have h1 : of P q.num * of P b = of P a * of P (q.den : Int) := by rw [← of_mul, num_mul h, of_mul]
  unfold ofQ
  refine La.mul_left_can hb ?_
  refine La.mul_left_can hl ?_
  rw [La.mul_left_comm (of P b), La.mul_comm (of P b) ((of P (q.den : Int))⁻¹), La.mul_left_comm (of P (q.den : Int)), ← La.mul_assoc (of P (q.den : Int)), La.mul_inv _ hl, La.one_mul, h1, La.mul_left_comm (of P b), La.mul_inv _ hb, La.mul_one, La.mul_comm]
theorem loc_int (z : Int) : Loc P (z : Rat) ∧ ofQ P (z : Rat) = of P z := by
  have h := ofQ_eq (P := P) (q := (z : Rat)) (a := z) (b := 1) (by rw [show ((1 : Int) : Rat) = 1 from rfl, Rat.mul_one]) (by rw [of_one]; exact La.one_ne)
  refine ⟨h.1, h.2.trans ?_⟩
  rw [of_one, inv_eq (La.one_mul 1), La.mul_one]
theorem loc_add {q r : Rat} (hq : Loc P q) (hr : Loc P r) : Loc P (q + r) ∧ ofQ P (q + r) = ofQ P q + ofQ P r := by
  have hb : of P ((q.den : Int) * (r.den : Int)) ≠ 0 := by rw [of_mul]; exact La.mul_ne hq hr
  have h := ofQ_eq (P := P) (q := q + r) (a := q.num * (r.den : Int) + r.num * (q.den : Int)) (b := (q.den : Int) * (r.den : Int)) (by
    rw [Rat.intCast_add, Rat.intCast_mul, Rat.intCast_mul, Rat.intCast_mul, ← q_den q, ← q_den r]
    grind) hb
  refine ⟨h.1, h.2.trans ?_⟩
  unfold ofQ
  refine La.mul_left_can hb ?_
  rw [La.mul_left_comm, La.mul_inv _ hb, La.mul_one, of_add, of_mul, of_mul, of_mul, La.mul_add]
  congr 1
  · rw [La.mul_assoc, La.mul_left_comm (of P (r.den : Int)), ← La.mul_assoc (of P (q.den : Int)), La.mul_comm (of P (q.den : Int)), La.mul_assoc, La.mul_left_comm (of P (q.den : Int)), La.mul_inv _ hq, La.mul_one, La.mul_comm]
  · rw [La.mul_assoc, La.mul_left_comm (of P (r.den : Int)), La.mul_inv _ hr, La.mul_one, La.mul_comm]
theorem loc_mul {q r : Rat} (hq : Loc P q) (hr : Loc P r) : Loc P (q * r) ∧ ofQ P (q * r) = ofQ P q * ofQ P r := by
  have hb : of P ((q.den : Int) * (r.den : Int)) ≠ 0 := by rw [of_mul]; exact La.mul_ne hq hr
  have h := ofQ_eq (P := P) (q := q * r) (a := q.num * r.num) (b := (q.den : Int) * (r.den : Int)) (by
    rw [Rat.intCast_mul, Rat.intCast_mul, ← q_den q, ← q_den r]
    grind) hb
  refine ⟨h.1, h.2.trans ?_⟩
  unfold ofQ
  refine La.mul_left_can hb ?_
  rw [La.mul_left_comm, La.mul_inv _ hb, La.mul_one, of_mul, of_mul]
  rw [La.mul_assoc, La.mul_assoc (of P q.num), La.mul_left_comm (of P (r.den : Int)), La.mul_left_comm (of P (q.den : Int)), La.mul_left_comm (of P (r.den : Int)) ((of P (q.den : Int))⁻¹), ← La.mul_assoc (of P (q.den : Int)), La.mul_inv _ hq, La.one_mul, La.mul_left_comm (of P (r.den : Int)), La.mul_inv _ hr, La.mul_one]
theorem loc_neg {q : Rat} (hq : Loc P q) : Loc P (-q) := by
  have h := (loc_mul (loc_int (P := P) (-1)).1 hq).1
  rwa [show ((-1 : Int) : Rat) * q = -q by rw [show ((-1 : Int) : Rat) = -1 from rfl]; grind] at h

/-- The ring of these fractions. -/
def Zl (P : Pm) : Type := {q : Rat // Loc P q}
instance : Lr.Rg (Zl P) where
  zero := ⟨((0 : Int) : Rat), (loc_int 0).1⟩
  one := ⟨((1 : Int) : Rat), (loc_int 1).1⟩
  add a b := ⟨a.1 + b.1, (loc_add a.2 b.2).1⟩
  mul a b := ⟨a.1 * b.1, (loc_mul a.2 b.2).1⟩
  neg a := ⟨-a.1, loc_neg a.2⟩
  add_assoc _ _ _ := Subtype.ext (Rat.add_assoc ..)
  add_comm _ _ := Subtype.ext (Rat.add_comm ..)
  zero_add _ := Subtype.ext (Rat.zero_add _)
  neg_add _ := Subtype.ext (Rat.neg_add_cancel _)
  mul_assoc _ _ _ := Subtype.ext (Rat.mul_assoc ..)
  mul_comm _ _ := Subtype.ext (Rat.mul_comm ..)
  one_mul _ := Subtype.ext (Rat.one_mul _)
  mul_add _ _ _ := Subtype.ext (Rat.mul_add ..)
end Go.Fq
