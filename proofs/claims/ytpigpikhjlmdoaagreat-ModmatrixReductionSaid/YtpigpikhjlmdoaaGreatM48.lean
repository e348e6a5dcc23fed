/- Texts of this seat's own, merged: each begins with its own remark. -/
import Derived.Test.YtpigpikhjlmdoaaGreatM40
import Derived.Test.YtpigpikhjlmdoaaGreatM19
import Derived.Test.YtpigpikhjlmdoaaGreatM24
/- Rational reconstruction: what the division of the modulus by the residue finds. No condition. -/
namespace Go.Rc
structure Rec (x m most last n before d e : Int) : Prop where
  e1 : e = 1 ∨ e = -1
  det : last * d - n * before = e * m
  n0 : 0 ≤ n
  nl : n < last
  big : most < last
  dp : 1 ≤ e * d
  bp : e * before ≤ 0
  cn : m ∣ n - d * x
  cl : m ∣ last - before * x
theorem Rec.start {x m most n : Int} (h0 : 0 ≤ n) (h1 : n < m) (h2 : most < m) (hc : m ∣ n - x) : Rec x m most m n 0 1 1 :=
  ⟨.inl rfl, by omega, h0, h1, h2, by omega, by omega, by rwa [Int.one_mul], by rw [Int.zero_mul, Int.sub_zero]; exact Int.dvd_refl m⟩
theorem Rec.step {x m most last n before d e q r : Int} (h : Rec x m most last n before d e) (hn : most < n) (h0 : 0 < n) (hq : last = q * n + r) (hr0 : 0 ≤ r) (hr1 : r < n) : Rec x m most n r d (before - q * d) (-e) := by
  have hq1 : 1 ≤ q := by
    rcases Int.lt_or_le q 1 with h1 | h1
    · have := Int.mul_le_mul_of_nonneg_right (show q ≤ 0 by omega) (Int.le_of_lt h0)
      have := h.nl
      omega
    · exact h1
  have hE : e * (before - q * d) = e * before - q * (e * d) := by rw [Int.mul_sub, Int.mul_left_comm]
  refine ⟨by rcases h.e1 with e | e <;> omega, ?_, hr0, hr1, hn, ?_, ?_, ?_, h.cn⟩
  · have e1 := h.det
    have e2 : n * (before - q * d) - r * d = -(last * d - n * before) := by
      rw [hq, Int.mul_sub, Int.add_mul, Int.mul_left_comm n q d, Int.mul_assoc q n d]
      omega
    rw [e2, e1, Int.neg_mul]
  · rw [Int.neg_mul, hE]
    have h1 := Int.mul_le_mul_of_nonneg_right hq1 (show 0 ≤ e * d by have := h.dp; omega)
    have := h.dp
    have := h.bp
    omega
  · rw [Int.neg_mul]
    have := h.dp
    omega
  · have e1 : r - (before - q * d) * x = (last - before * x) - q * (n - d * x) := by
      rw [hq, Int.mul_sub, Int.sub_mul, Int.mul_assoc]
      omega
    rw [e1]
    exact Int.dvd_sub h.cl (Int.dvd_mul_of_dvd_right h.cn)
theorem Rec.dm {x m most last n before d e : Int} (h : Rec x m most last n before d e) (h0 : 0 ≤ most) : d.natAbs ≤ m.natAbs := by
  have hl : 1 ≤ last := by have := h.big; omega
  have h1 := h.dp
  have h2 := h.bp
  have h3 := h.det
  have h4 := h.n0
  rcases h.e1 with e1 | e1 <;> subst e1
  · have k1 := Int.mul_le_mul_of_nonneg_right hl (show 0 ≤ d by omega)
    have k2 := Int.mul_nonneg h4 (show 0 ≤ -before by omega)
    simp only [Int.mul_neg] at k2
    omega
  · have k1 := Int.mul_le_mul_of_nonneg_right hl (show 0 ≤ -d by omega)
    have k2 := Int.mul_nonneg h4 (show 0 ≤ before by omega)
    simp only [Int.mul_neg] at k1
    omega
theorem Rec.bm {x m most last n before d e : Int} (h : Rec x m most last n before d e) (h0 : 0 ≤ most) (hn : 1 ≤ n) : before.natAbs ≤ m.natAbs := by
  have hl : 1 ≤ last := by have := h.big; omega
  have h1 := h.dp
  have h2 := h.bp
  have h3 := h.det
  rcases h.e1 with e1 | e1 <;> subst e1
  · have k1 := Int.mul_nonneg (show 0 ≤ last by omega) (show 0 ≤ d by omega)
    have k2 := Int.mul_le_mul_of_nonneg_right hn (show 0 ≤ -before by omega)
    simp only [Int.mul_neg, Int.one_mul] at k2
    omega
  · have k1 := Int.mul_nonneg (show 0 ≤ last by omega) (show 0 ≤ -d by omega)
    have k2 := Int.mul_le_mul_of_nonneg_right hn (show 0 ≤ before by omega)
    simp only [Int.mul_neg] at k1
    omega
theorem abs_mul_le {a b c d : Int} (h1 : -c ≤ a) (h2 : a ≤ c) (h3 : 0 ≤ b) (h4 : b ≤ d) : -(c * d) ≤ a * b ∧ a * b ≤ c * d := by
  have h0 : 0 ≤ c := by omega
  have e1 : c * b ≤ c * d := Int.mul_le_mul_of_nonneg_left h4 h0
  have e2 : a * b ≤ c * b := Int.mul_le_mul_of_nonneg_right h2 h3
  have e3 : -c * b ≤ a * b := Int.mul_le_mul_of_nonneg_right h1 h3
  rw [Int.neg_mul] at e3
  omega
theorem Rec.complete {x m most last n before d e n' d' : Int} (h : Rec x m most last n before d e) (hn : n ≤ most) (hm : 2 * (most * most) < m) (hd1 : 1 ≤ d') (hd2 : d' ≤ most) (hn1 : -most ≤ n') (hn2 : n' ≤ most) (hc : m ∣ n' - d' * x) :
    ∃ b : Int, n' = b * n ∧ d' = b * d := by
  have hm0 : 0 < m := by
    have := Int.mul_nonneg (show 0 ≤ most by omega) (show 0 ≤ most by omega)
    omega
  have hee : e * e = 1 := by rcases h.e1 with e | e <;> subst e <;> decide
  have c1 : m ∣ n' * d - n * d' := by
    have e1 : n' * d - n * d' = (n' - d' * x) * d - (n - d * x) * d' := by
      rw [Int.sub_mul, Int.sub_mul, show d' * x * d = d * x * d' by rw [Int.mul_comm, ← Int.mul_assoc, Int.mul_comm d d', Int.mul_assoc, Int.mul_comm d', Int.mul_comm]]
      omega
    rw [e1]
    exact Int.dvd_sub (Int.dvd_mul_of_dvd_left hc) (Int.dvd_mul_of_dvd_left h.cn)
  have c2 : m ∣ last * d' - n' * before := by
    have e1 : last * d' - n' * before = (last - before * x) * d' - (n' - d' * x) * before := by
      rw [Int.sub_mul, Int.sub_mul, show d' * x * before = before * x * d' by rw [Int.mul_comm, ← Int.mul_assoc, Int.mul_comm before d', Int.mul_assoc, Int.mul_comm d', Int.mul_comm]]
      omega
    rw [e1]
    exact Int.dvd_sub (Int.dvd_mul_of_dvd_left h.cl) (Int.dvd_mul_of_dvd_left hc)
  obtain ⟨k, hk⟩ := c1
  obtain ⟨l, hl⟩ := c2
  have key1 : n' = e * k * last + e * l * n := by
    refine Int.eq_of_mul_eq_mul_left (a := m) (by omega) ?_
    have e1 : m * (e * k * last + e * l * n) = e * ((m * k) * last + (m * l) * n) := by
      rw [Int.mul_add, Int.mul_add]
      simp only [Int.mul_left_comm, Int.mul_comm]
    have e2 : (n' * d - n * d') * last + (last * d' - n' * before) * n = n' * (last * d - n * before) := by
      rw [Int.sub_mul, Int.sub_mul, Int.mul_sub, show n * d' * last = last * d' * n by rw [Int.mul_comm (n * d'), Int.mul_comm n d', Int.mul_assoc], show n' * d * last = n' * (last * d) by rw [Int.mul_assoc, Int.mul_comm d], show n' * before * n = n' * (n * before) by rw [Int.mul_assoc, Int.mul_comm before]]
      omega
    rw [e1, ← hk, ← hl, e2, h.det, Int.mul_left_comm e n', ← Int.mul_assoc e e m, hee, Int.one_mul, Int.mul_comm]
  have key2 : d' = e * k * before + e * l * d := by
    refine Int.eq_of_mul_eq_mul_left (a := m) (by omega) ?_
    have e1 : m * (e * k * before + e * l * d) = e * ((m * k) * before + (m * l) * d) := by
      rw [Int.mul_add, Int.mul_add]
      simp only [Int.mul_left_comm, Int.mul_comm]
    have e2 : (n' * d - n * d') * before + (last * d' - n' * before) * d = d' * (last * d - n * before) := by
      rw [Int.sub_mul, Int.sub_mul, Int.mul_sub, show n' * before * d = n' * d * before by rw [Int.mul_assoc, Int.mul_comm before, ← Int.mul_assoc], show last * d' * d = d' * (last * d) by rw [Int.mul_comm last, Int.mul_assoc], show n * d' * before = d' * (n * before) by rw [Int.mul_comm n, Int.mul_assoc]]
      omega
    rw [e1, ← hk, ← hl, e2, h.det, Int.mul_left_comm e d', ← Int.mul_assoc e e m, hee, Int.one_mul, Int.mul_comm]
  have hk0 : k = 0 := by
    rcases Int.lt_trichotomy (e * k) 0 with h1 | h1 | h1
    rotate_left
    · rcases h.e1 with e1 | e1 <;> subst e1 <;> omega
    all_goals
      exfalso
      have hD : e * d ≤ d' := by
        have ed : e * d' = (e * k) * (e * before) + (e * l) * (e * d) := by
          have e1 : e * (e * k * before + e * l * d) = (e * k) * (e * before) + (e * l) * (e * d) := by
            rw [Int.mul_add]
            simp only [Int.mul_left_comm, Int.mul_comm]
          rw [← e1, ← key2]
        have hed : e * d' ≤ d' ∧ -d' ≤ e * d' := by rcases h.e1 with e1 | e1 <;> subst e1 <;> omega
        first
          | (have hl1 : 1 ≤ e * l := by
               rcases Int.lt_or_le (e * l) 1 with h2 | h2
               · have h3 := Int.mul_le_mul_of_nonneg_right (show e * l ≤ 0 by omega) h.n0
                 have h4 := Int.mul_le_mul_of_nonneg_right (show e * k ≤ -1 by omega) (show 0 ≤ last by have := h.nl; have := h.n0; omega)
                 have := h.big
                 omega
               · exact h2
             have h5 := Int.mul_nonneg_of_nonpos_of_nonpos (show e * k ≤ 0 by omega) h.bp
             have h6 := Int.mul_le_mul_of_nonneg_right hl1 (show 0 ≤ e * d by have := h.dp; omega)
             omega)
          | (have hl1 : e * l ≤ -1 := by
               rcases Int.lt_or_le (-1) (e * l) with h2 | h2
               · have h3 := Int.mul_nonneg (show 0 ≤ e * l by omega) h.n0
                 have h4 := Int.mul_le_mul_of_nonneg_right (show 1 ≤ e * k by omega) (show 0 ≤ last by have := h.nl; have := h.n0; omega)
                 have := h.big
                 omega
               · exact h2
             have h5 := Int.mul_nonpos_of_nonneg_of_nonpos (show 0 ≤ e * k by omega) h.bp
             have h6 := Int.mul_le_mul_of_nonneg_right hl1 (show 0 ≤ e * d by have := h.dp; omega)
             omega)
      have b1 := abs_mul_le hn1 hn2 (show 0 ≤ e * d by have := h.dp; omega) (show e * d ≤ most by omega)
      have b2 := abs_mul_le (a := n) (c := most) (by have := h.n0; omega) hn (show 0 ≤ d' by omega) hd2
      have b3 : n' * d = n' * (e * d) ∨ n' * d = -(n' * (e * d)) := by
        rcases h.e1 with e1 | e1 <;> subst e1
        · exact .inl (by rw [Int.one_mul])
        · exact .inr (by rw [Int.neg_mul, Int.one_mul, Int.mul_neg, Int.neg_neg])
      have b4 : -m < m * k ∧ m * k < m := by omega
      have hkz : k = 0 := by
        rcases Int.lt_trichotomy k 0 with h2 | h2 | h2
        · have := Int.mul_le_mul_of_nonneg_left (show k ≤ -1 by omega) (Int.le_of_lt hm0)
          omega
        · exact h2
        · have := Int.mul_le_mul_of_nonneg_left (show 1 ≤ k by omega) (Int.le_of_lt hm0)
          omega
      rw [hkz, Int.mul_zero] at h1
      omega
  refine ⟨e * l, ?_, ?_⟩
  · rw [hk0, Int.mul_zero, Int.zero_mul, Int.zero_add] at key1; exact key1
  · rw [hk0, Int.mul_zero, Int.zero_mul, Int.zero_add] at key2; exact key2
theorem unique {x m most n1 d1 n2 d2 : Int} (hm : 2 * (most * most) < m) (h1 : -most ≤ n1) (h2 : n1 ≤ most) (h3 : 0 ≤ d1) (h4 : d1 ≤ most) (k1 : -most ≤ n2) (k2 : n2 ≤ most) (k3 : 0 ≤ d2) (k4 : d2 ≤ most) (c1 : m ∣ n1 - d1 * x) (c2 : m ∣ n2 - d2 * x) : n1 * d2 = n2 * d1 := by
  have c : m ∣ n1 * d2 - n2 * d1 := by
    have e1 : n1 * d2 - n2 * d1 = (n1 - d1 * x) * d2 - (n2 - d2 * x) * d1 := by
      rw [Int.sub_mul, Int.sub_mul, show d2 * x * d1 = d1 * x * d2 by rw [Int.mul_comm, ← Int.mul_assoc, Int.mul_comm d1 d2, Int.mul_assoc, Int.mul_comm d2, Int.mul_comm]]
      omega
    rw [e1]
    exact Int.dvd_sub (Int.dvd_mul_of_dvd_left c1) (Int.dvd_mul_of_dvd_left c2)
  obtain ⟨k, hk⟩ := c
  have b1 := abs_mul_le h1 h2 k3 k4
  have b2 := abs_mul_le k1 k2 h3 h4
  have hm0 : 0 < m := by
    have := Int.mul_nonneg (show 0 ≤ most by omega) (show 0 ≤ most by omega)
    omega
  have hkz : k = 0 := by
    rcases Int.lt_trichotomy k 0 with h2 | h2 | h2
    · have := Int.mul_le_mul_of_nonneg_left (show k ≤ -1 by omega) (Int.le_of_lt hm0)
      omega
    · exact h2
    · have := Int.mul_le_mul_of_nonneg_left (show 1 ≤ k by omega) (Int.le_of_lt hm0)
      omega
  rw [hkz, Int.mul_zero] at hk
  omega
end Go.Rc

/- Fractions whose denominators a prime does not divide; ranks of residues. No condition. -/
namespace Go.Fq
open Go.La (Fld Mx setr setr_at setr_ne)
variable {P : Pm}
noncomputable def ofQ (P : Pm) (q : Rat) : Fp P := of P q.num * (of P (q.den : Int))⁻¹
def Loc (P : Pm) (q : Rat) : Prop := of P (q.den : Int) ≠ 0
theorem q_den (q : Rat) : q * ((q.den : Int) : Rat) = (q.num : Rat) := by
  have h0 : ((q.den : Int) : Rat) ≠ 0 := by
    rw [Rat.intCast_natCast]
    have := q.den_nz
    intro e
    exact this (Rat.natCast_eq_zero_iff.1 e)
  have h := Rat.num_divInt_den q
  rw [Rat.divInt_eq_div] at h
  have h1 : (q.num : Rat) / ((q.den : Int) : Rat) * ((q.den : Int) : Rat) = (q.num : Rat) := Rat.div_mul_cancel h0
  rw [h] at h1
  exact h1
theorem num_mul {q : Rat} {a b : Int} (h : q * (b : Rat) = (a : Rat)) : q.num * b = a * (q.den : Int) := by
  refine Rat.intCast_inj.1 ?_
  rw [Rat.intCast_mul, Rat.intCast_mul, ← q_den q, ← h]
  grind
theorem den_dvd {q : Rat} {a b : Int} (h : q * (b : Rat) = (a : Rat)) : (q.den : Int) ∣ b := by
  have h1 := num_mul h
  have h2 : q.den ∣ q.num.natAbs * b.natAbs := by
    rw [← Int.natAbs_mul, h1, Int.natAbs_mul]
    exact Nat.dvd_mul_left ..
  have h3 := (Nat.Coprime.symm q.reduced).dvd_of_dvd_mul_left h2
  exact Int.natAbs_dvd_natAbs.1 (by simpa using h3)
theorem ofQ_eq {q : Rat} {a b : Int} (h : q * (b : Rat) = (a : Rat)) (hb : of P b ≠ 0) : Loc P q ∧ ofQ P q = of P a * (of P b)⁻¹ := by
  have hl : Loc P q := by
    obtain ⟨k, hk⟩ := den_dvd h
    intro e
    exact hb (by rw [hk, of_mul, e, La.zero_mul])
  refine ⟨hl, ?_⟩
  have h1 : of P q.num * of P b = of P a * of P (q.den : Int) := by rw [← of_mul, num_mul h, of_mul]
  unfold ofQ
  refine La.mul_left_can hb ?_
  refine La.mul_left_can hl ?_
  rw [La.mul_left_comm (of P b), La.mul_comm (of P b) ((of P (q.den : Int))⁻¹), La.mul_left_comm (of P (q.den : Int)), ← La.mul_assoc (of P (q.den : Int)), La.mul_inv _ hl, La.one_mul, h1, La.mul_left_comm (of P b), La.mul_inv _ hb, La.mul_one, La.mul_comm]
theorem loc_int (z : Int) : Loc P (z : Rat) ∧ ofQ P (z : Rat) = of P z := by
  have h := ofQ_eq (P := P) (q := (z : Rat)) (a := z) (b := 1) (by rw [show ((1 : Int) : Rat) = 1 from rfl, Rat.mul_one]) (by rw [of_one]; exact La.one_ne)
  refine ⟨h.1, h.2.trans ?_⟩
  rw [of_one, inv_eq (La.one_mul 1), La.mul_one]
theorem loc_add {q r : Rat} (hq : Loc P q) (hr : Loc P r) : Loc P (q + r) ∧ ofQ P (q + r) = ofQ P q + ofQ P r := by
  have hb : of P ((q.den : Int) * (r.den : Int)) ≠ 0 := by rw [of_mul]; exact La.mul_ne hq hr
  have h := ofQ_eq (P := P) (q := q + r) (a := q.num * (r.den : Int) + r.num * (q.den : Int)) (b := (q.den : Int) * (r.den : Int)) (by
    rw [Rat.intCast_add, Rat.intCast_mul, Rat.intCast_mul, Rat.intCast_mul, ← q_den q, ← q_den r]
    grind) hb
  refine ⟨h.1, h.2.trans ?_⟩
  unfold ofQ
  refine La.mul_left_can hb ?_
  rw [La.mul_left_comm, La.mul_inv _ hb, La.mul_one, of_add, of_mul, of_mul, of_mul, La.mul_add]
  congr 1
  · rw [La.mul_assoc, La.mul_left_comm (of P (r.den : Int)), ← La.mul_assoc (of P (q.den : Int)), La.mul_comm (of P (q.den : Int)), La.mul_assoc, La.mul_left_comm (of P (q.den : Int)), La.mul_inv _ hq, La.mul_one, La.mul_comm]
  · rw [La.mul_assoc, La.mul_left_comm (of P (r.den : Int)), La.mul_inv _ hr, La.mul_one, La.mul_comm]
theorem loc_mul {q r : Rat} (hq : Loc P q) (hr : Loc P r) : Loc P (q * r) ∧ ofQ P (q * r) = ofQ P q * ofQ P r := by
  have hb : of P ((q.den : Int) * (r.den : Int)) ≠ 0 := by rw [of_mul]; exact La.mul_ne hq hr
  have h := ofQ_eq (P := P) (q := q * r) (a := q.num * r.num) (b := (q.den : Int) * (r.den : Int)) (by
    rw [Rat.intCast_mul, Rat.intCast_mul, ← q_den q, ← q_den r]
    grind) hb
  refine ⟨h.1, h.2.trans ?_⟩
  unfold ofQ
  refine La.mul_left_can hb ?_
  rw [La.mul_left_comm, La.mul_inv _ hb, La.mul_one, of_mul, of_mul]
  rw [La.mul_assoc, La.mul_assoc (of P q.num), La.mul_left_comm (of P (r.den : Int)), La.mul_left_comm (of P (q.den : Int)), La.mul_left_comm (of P (r.den : Int)) ((of P (q.den : Int))⁻¹), ← La.mul_assoc (of P (q.den : Int)), La.mul_inv _ hq, La.one_mul, La.mul_left_comm (of P (r.den : Int)), La.mul_inv _ hr, La.mul_one]
theorem loc_neg {q : Rat} (hq : Loc P q) : Loc P (-q) := by
  have h := (loc_mul (loc_int (P := P) (-1)).1 hq).1
  rwa [show ((-1 : Int) : Rat) * q = -q by rw [show ((-1 : Int) : Rat) = -1 from rfl]; grind] at h
def Zl (P : Pm) : Type := {q : Rat // Loc P q}
instance : Lr.Rg (Zl P) where
  zero := ⟨((0 : Int) : Rat), (loc_int 0).1⟩
  one := ⟨((1 : Int) : Rat), (loc_int 1).1⟩
  add a b := ⟨a.1 + b.1, (loc_add a.2 b.2).1⟩
  mul a b := ⟨a.1 * b.1, (loc_mul a.2 b.2).1⟩
  neg a := ⟨-a.1, loc_neg a.2⟩
  add_assoc _ _ _ := Subtype.ext (Rat.add_assoc ..)
  add_comm _ _ := Subtype.ext (Rat.add_comm ..)
  zero_add _ := Subtype.ext (Rat.zero_add _)
  neg_add _ := Subtype.ext (Rat.neg_add_cancel _)
  mul_assoc _ _ _ := Subtype.ext (Rat.mul_assoc ..)
  mul_comm _ _ := Subtype.ext (Rat.mul_comm ..)
  one_mul _ := Subtype.ext (Rat.one_mul _)
  mul_add _ _ _ := Subtype.ext (Rat.mul_add ..)
theorem hom_val (P : Pm) : Lr.Hom (R := Zl P) (S := Rat) fun a => a.1 where
  zero := rfl
  one := rfl
  add _ _ := rfl
  mul _ _ := rfl
theorem hom_res (P : Pm) : Lr.Hom (R := Zl P) (S := Fp P) fun a => ofQ P a.1 where
  zero := (loc_int 0).2
  one := (loc_int 1).2
  add a b := (loc_add a.2 b.2).2
  mul a b := (loc_mul a.2 b.2).2
theorem loc_sm {n : Nat} {f : Nat → Rat} (h : ∀ k, k < n → Loc P (f k)) : Loc P (La.sm n f) ∧ ofQ P (La.sm n f) = La.sm n fun k => ofQ P (f k) := by
  induction n with
  | zero => exact loc_int (P := P) 0
  | succ n ih =>
    have h1 := ih fun k hk => h k (by omega)
    have h2 := loc_add h1.1 (h n (by omega))
    refine ⟨h2.1, h2.2.trans ?_⟩
    rw [h1.2]; rfl
theorem lift_ex {n : Nat} {A : Mx Rat} (h : ∀ i j, i < n → j < n → Loc P (A i j)) : ∃ B : Mx (Zl P), ∀ i j, i < n → j < n → (B i j).1 = A i j := by
  refine ⟨fun i j => if e : i < n ∧ j < n then ⟨A i j, h i j e.1 e.2⟩ else ⟨((0 : Int) : Rat), (loc_int 0).1⟩, fun i j hi hj => ?_⟩
  show (if e : i < n ∧ j < n then (⟨A i j, h i j e.1 e.2⟩ : Zl P) else _).1 = _
  rw [dif_pos ⟨hi, hj⟩]
theorem det_res {n : Nat} {A : Mx Rat} (h : ∀ i j, i < n → j < n → Loc P (A i j)) : Loc P (La.det n A) ∧ ofQ P (La.det n A) = La.det n fun i j => ofQ P (A i j) := by
  obtain ⟨B, hB⟩ := lift_ex h
  have h1 := (hom_val P).det n B
  have h2 := (hom_res P).det n B
  rw [Lr.det_la] at h1 h2
  have e1 : La.det n (fun i j => (B i j).1) = La.det n A := La.det_congr hB
  rw [e1] at h1
  rw [← h1]
  refine ⟨(Lr.det n B).2, h2.trans (La.det_congr fun i j hi hj => by rw [hB i j hi hj])⟩
theorem cp_res {n : Nat} {A : Mx Rat} (h : ∀ i j, i < n → j < n → Loc P (A i j)) (k : Nat) : Loc P (Lr.cp n A k) ∧ ofQ P (Lr.cp n A k) = Lr.cp n (fun i j => ofQ P (A i j)) k := by
  obtain ⟨B, hB⟩ := lift_ex h
  have h1 := Lr.cp_map (hom_val P) n B k
  have h2 := Lr.cp_map (hom_res P) n B k
  have e1 : Lr.cp n (fun i j => (B i j).1) k = Lr.cp n A k := Lr.cp_congr hB k
  rw [e1] at h1
  rw [← h1]
  refine ⟨(Lr.cp n B k).2, h2.trans (Lr.cp_congr (fun i j hi hj => by rw [hB i j hi hj]) k)⟩
theorem det_indep {K : Type} [Fld K] {s : Nat} {T : Mx K} (h : La.det s T ≠ 0) {x : Nat → K} (hx : ∀ j, j < s → La.sm s (fun i => x i * T i j) = 0) : ∀ i, i < s → x i = 0 := by
  intro t ht
  have h1 := (Lr.det_alt s).comb_sum ht T x T s
  have h0 : Lr.det s (setr T t fun l => Lr.sm s fun j => x j * T j l) = 0 := (Lr.det_alt s).zero ht fun j hj => by
    rw [setr_at, Lr.sm_la]; exact hx j hj
  rw [h0, Lr.sm_one t ht fun j hj hne => by
    rw [(Lr.det_alt s).eq (A := setr T t (T j)) (p := t) (q := j) ht hj (Ne.symm hne) (by rw [setr_at, setr_ne _ _ hne]), Lr.mul_zero]] at h1
  have e : setr T t (T t) = T := by
    funext a
    by_cases e : a = t
    · subst e; exact setr_at _ _ _
    · exact setr_ne _ _ e
  rw [e, Lr.det_la] at h1
  rcases La.mul_eq_zero h1.symm with h2 | h2
  · exact h2
  · exact absurd h2 h
theorem rank_res {m n r s : Nat} {A R : Mx Rat} {S : Mx (Fp P)} {q : Nat → Nat} (hA : ∀ i j, i < m → j < n → Loc P (A i j)) (e : La.Same r m n R A) (k : La.Ech s n S q) (e' : La.Same s m n S fun i j => ofQ P (A i j)) : s ≤ r := by
  have hc : ∀ i, ∃ c : Nat → Fp P, i < s → ∀ j, j < n → S i j = La.sm m fun a => c a * ofQ P (A a j) := fun i => by
    by_cases hi : i < s
    · obtain ⟨c, hc⟩ := e'.lt i hi
      exact ⟨c, fun _ => hc⟩
    · exact ⟨fun _ => 0, fun h => absurd h hi⟩
  let c : Nat → Nat → Fp P := fun i => Classical.choose (hc i)
  have hcs : ∀ i, i < s → ∀ j, j < n → S i j = La.sm m fun a => c i a * ofQ P (A a j) := fun i => Classical.choose_spec (hc i)
  let T : Mx Rat := fun i j => La.sm m fun a => (((c i a).v : Int) : Rat) * A a j
  have hT : ∀ i j, i < s → j < n → Loc P (T i j) ∧ ofQ P (T i j) = S i j := fun i j hi hj => by
    have h1 := loc_sm (P := P) (n := m) (f := fun a => (((c i a).v : Int) : Rat) * A a j) fun a ha => (loc_mul (loc_int _).1 (hA a j ha hj)).1
    refine ⟨h1.1, h1.2.trans ?_⟩
    rw [hcs i hi j hj]
    refine La.sm_congr fun a ha => ?_
    rw [(loc_mul (loc_int _).1 (hA a j ha hj)).2, (loc_int _).2, of_v]
  have hq : ∀ i, i < s → q i < n := fun i hi => k.lt i hi
  have hd : La.det s (fun i j => T i (q j)) ≠ 0 := by
    have h1 := det_res (P := P) (n := s) (A := fun i j => T i (q j)) fun i j hi hj => (hT i (q j) hi (hq j hj)).1
    intro e0
    rw [e0] at h1
    have h2 : La.det s (fun i j => ofQ P (T i (q j))) = 1 := by
      rw [← La.det_idm s]
      refine La.det_congr fun i j hi hj => ?_
      rw [(hT i (q j) hi (hq j hj)).2]
      exact k.one i j hi hj
    rw [h2] at h1
    exact La.one_ne (K := Fp P) (h1.2.symm.trans (loc_int (P := P) 0).2)
  refine La.indep_le (A := T) (B := R) (n := n) (fun i hi => ?_) fun x hx => ?_
  · have : La.Sp m n A (T i) := ⟨fun a => (((c i a).v : Int) : Rat), fun j _ => rfl⟩
    exact this.trans e.rt
  · exact det_indep hd fun j hj => hx (q j) (hq j hj)
end Go.Fq

/- Characteristic polynomials by traces: multiples of a matrix, integers, and how great they are. No condition. -/
namespace Go.Lr
open Go.La (Mx setr setr_at setr_ne swap swap_at swap_ne skip skip_lt Fld)
section
variable {K : Type} [Rg K]
def pw (t : K) : Nat → K
  | 0 => 1
  | n + 1 => t * pw t n
theorem pw_add (t : K) (b : Nat) : ∀ a : Nat, pw t (a + b) = pw t a * pw t b
  | 0 => by rw [Nat.zero_add]; exact (one_mul _).symm
  | a + 1 => by rw [Nat.succ_add]; show t * pw t (a + b) = t * pw t a * pw t b; rw [pw_add t b a, mul_assoc]
def scl (t : K) (f : PS K) : PS K := fun n => (pw t n * f n : K)
theorem hom_scl (t : K) : Hom (scl t) where
  zero := funext fun n => by show pw t n * (0 : K) = 0; exact mul_zero _
  one := funext fun n => by
    show pw t n * (if n = 0 then (1 : K) else 0) = if n = 0 then 1 else 0
    by_cases e : n = 0
    · subst e; rw [if_pos rfl]; show (1 : K) * 1 = 1; exact one_mul _
    · rw [if_neg e]; exact mul_zero _
  add a b := funext fun n => by show pw t n * ((a n : K) + b n) = pw t n * (a n : K) + pw t n * (b n : K); exact mul_add _ _ _
  mul a b := funext fun n => by
    show pw t n * sm (n + 1) (fun i => (a i : K) * b (n - i)) = sm (n + 1) fun i => (pw t i * (a i : K)) * (pw t (n - i) * (b (n - i) : K))
    rw [← sm_mul]
    refine sm_congr fun i hi => ?_
    have e : pw t n = pw t i * pw t (n - i) := by rw [← pw_add]; congr 1; omega
    rw [e, mul_assoc, mul_assoc]
    congr 1
    rw [mul_left_comm]
theorem scl_two (t a b : K) : scl t (two a b) = two a (t * b) := funext fun n => by
  show pw t n * two a b n = two a (t * b) n
  unfold two
  by_cases e0 : n = 0
  · subst e0; rw [if_pos rfl, if_pos rfl]; show (1 : K) * a = a; exact one_mul _
  · rw [if_neg e0, if_neg e0]
    by_cases e1 : n = 1
    · subst e1; rw [if_pos rfl, if_pos rfl]; show t * 1 * b = t * b; rw [mul_one]
    · rw [if_neg e1, if_neg e1]; exact mul_zero _
end
theorem adj_hom {R S : Type} [Rg R] [Rg S] {Φ : PS R → PS S} (h : Hom Φ) {n : Nat} {A : Mx R} {B : Mx S} (hA : ∀ a b, a < n → b < n → Φ (cm A a b) = cm B a b) (i k : Nat) : Φ (adj n (cm A) i k) = adj n (cm B) i k :=
  (h.det n _).trans (det_congr fun a b ha hb => by
    show Φ (setr (cm A) k (idm i) a b) = setr (cm B) k (idm i) a b
    by_cases e : a = k
    · subst e
      rw [setr_at, setr_at]
      unfold idm
      split
      · exact h.one
      · exact h.zero
    · rw [setr_ne _ _ e, setr_ne _ _ e]
      exact hA a b ha hb)
theorem det_hom {R S : Type} [Rg R] [Rg S] {Φ : PS R → PS S} (h : Hom Φ) {n : Nat} {A : Mx R} {B : Mx S} (hA : ∀ a b, a < n → b < n → Φ (cm A a b) = cm B a b) : Φ (det n (cm A)) = det n (cm B) :=
  (h.det n _).trans (det_congr hA)
theorem cm_map {R S : Type} [Rg R] [Rg S] {φ : R → S} (h : Hom φ) (A : Mx R) (a b : Nat) : pmap φ (cm A a b) = cm (fun i j => φ (A i j)) a b := funext fun m => by
  show φ (two (idm a b) (-(A a b)) m) = two (idm a b) (-(φ (A a b))) m
  unfold two
  split
  · unfold idm; split; exact h.one; exact h.zero
  · split
    · exact h.neg _
    · exact h.zero
theorem Bc_map {R S : Type} [Rg R] [Rg S] {φ : R → S} (h : Hom φ) (n : Nat) (A : Mx R) (m i k : Nat) : φ (Bc n A m i k) = Bc n (fun i j => φ (A i j)) m i k :=
  congrFun (adj_hom (hom_ps h) (fun a b _ _ => cm_map h A a b) i k) m
section
variable {K : Type} [Rg K]
theorem cm_scl {n : Nat} (t : K) {A B : Mx K} (hB : ∀ i j, i < n → j < n → B i j = t * A i j) (a b : Nat) (ha : a < n) (hb : b < n) : scl t (cm A a b) = cm B a b := by
  unfold cm
  rw [scl_two, hB a b ha hb, mul_neg]
theorem cp_scl {n : Nat} (t : K) {A B : Mx K} (hB : ∀ i j, i < n → j < n → B i j = t * A i j) (k : Nat) : cp n B k = pw t k * cp n A k :=
  (congrFun (det_hom (hom_scl t) (fun a b ha hb => cm_scl t hB a b ha hb)) k).symm
theorem Bc_scl {n : Nat} (t : K) {A B : Mx K} (hB : ∀ i j, i < n → j < n → B i j = t * A i j) (m i k : Nat) : Bc n B m i k = pw t m * Bc n A m i k :=
  (congrFun (adj_hom (hom_scl t) (fun a b ha hb => cm_scl t hB a b ha hb) i k) m).symm
end
theorem sm_abs {b : Nat} : ∀ {n : Nat} {f : Nat → Int}, (∀ k, k < n → (f k).natAbs ≤ b) → (sm n f).natAbs ≤ n * b
  | 0, _, _ => by show (0 : Int).natAbs ≤ _; omega
  | n + 1, f, h => by
    have h1 := sm_abs (b := b) (n := n) (f := f) fun k hk => h k (by omega)
    have h2 := h n (by omega)
    show (sm n f + f n).natAbs ≤ _
    have h3 := Int.natAbs_add_le (sm n f) (f n)
    rw [Nat.add_mul, Nat.one_mul]
    omega
theorem nm_int : ∀ m : Nat, (nm m : Int) = m
  | 0 => rfl
  | m + 1 => by show (nm m : Int) + 1 = _; rw [nm_int m]; omega
theorem mm_abs {n β b : Nat} {Z B : Mx Int} {i k : Nat} (hZ : ∀ j, j < n → (Z i j).natAbs ≤ β) (hB : ∀ j, j < n → (B j k).natAbs ≤ b) : (mm n Z B i k).natAbs ≤ n * (β * b) :=
  sm_abs fun j hj => by
    rw [Int.natAbs_mul]
    exact Nat.mul_le_mul (hZ j hj) (hB j hj)
theorem cp_abs {n β b m : Nat} {Z : Mx Int} (hZ : ∀ i j, i < n → j < n → (Z i j).natAbs ≤ β) (hB : ∀ i j, i < n → j < n → (Bc n Z m i j).natAbs ≤ b) : (cp n Z (m + 1)).natAbs ≤ n * (n * (β * b)) := by
  have h := cp_trace n Z m
  rw [nm_int] at h
  have h1 : (sm n fun i => mm n Z (Bc n Z m) i i).natAbs ≤ n * (n * (β * b)) := sm_abs fun i hi => mm_abs (fun j hj => hZ i j hi hj) (fun j hj => hB j i hj hi)
  have h2 := congrArg Int.natAbs h
  rw [Int.natAbs_neg, Int.natAbs_mul, Int.natAbs_natCast] at h2
  have h3 : (cp n Z (m + 1)).natAbs ≤ (m + 1) * (cp n Z (m + 1)).natAbs := Nat.le_mul_of_pos_left _ (Nat.succ_pos m)
  omega
theorem Bc_abs {n β : Nat} {Z : Mx Int} (hn : n ≤ 5) (hZ : ∀ i j, i < n → j < n → (Z i j).natAbs ≤ β) : ∀ m : Nat, (∀ i k, i < n → k < n → (Bc n Z m i k).natAbs ≤ (30 * β) ^ m) ∧ (cp n Z m).natAbs ≤ (30 * β) ^ m
  | 0 => ⟨fun i k hi hk => by
      rw [Bc_zero hi hk]
      unfold idm
      rw [Nat.pow_zero]
      split <;> decide, by rw [cp_zero, Nat.pow_zero]; decide⟩
  | m + 1 => by
    obtain ⟨h1, -⟩ := Bc_abs hn hZ m
    have h2 := cp_abs hZ h1
    obtain ⟨b, hb⟩ : ∃ b, b = β * (30 * β) ^ m := ⟨_, rfl⟩
    have e : (30 * β) ^ (m + 1) = 30 * b := by rw [hb, Nat.pow_succ, Nat.mul_comm, Nat.mul_assoc]
    rw [← hb] at h2
    have h3 : n * b ≤ 5 * b := Nat.mul_le_mul_right b hn
    have h4 : n * (n * b) ≤ 5 * (5 * b) := Nat.mul_le_mul hn h3
    rw [e]
    refine ⟨fun i k hi hk => ?_, by omega⟩
    have h5 := mm_abs (Z := Z) (B := Bc n Z m) (i := i) (k := k) (fun j hj => hZ i j hi hj) (fun j hj => h1 j k hj hk)
    rw [← hb] at h5
    rw [Bc_succ hi hk]
    have h6 := Int.natAbs_add_le (mm n Z (Bc n Z m) i k) (cp n Z (m + 1) * idm i k)
    have h7 : (cp n Z (m + 1) * idm i k).natAbs ≤ (cp n Z (m + 1)).natAbs := by
      unfold idm
      split
      · rw [Int.mul_one]; exact Nat.le_refl _
      · rw [Int.mul_zero]; exact Nat.zero_le _
    omega
end Go.Lr

/- Steps to Hessenberg form. No condition. -/
namespace Go.Lr
open Go.La (Mx setr setr_at setr_ne Fld)
section
variable {K : Type} [Fld K]
def HsTo (n m : Nat) (H : Mx K) : Prop := ∀ i j, i < n → j + 1 < i → j + 1 < m → H i j = 0
theorem HsTo.start {n : Nat} {H : Mx K} : HsTo n 1 H := fun _ _ _ _ h => absurd h (by omega)
theorem HsTo.hess {n m : Nat} {H : Mx K} (h : HsTo n m H) (hm : n ≤ m + 1) : Hess n H := fun i j hi hj => h i j hi hj (by omega)
theorem HsTo.pass {n m : Nat} {H : Mx K} (h : HsTo n m H) (hz : ∀ i, m < i → i < n → H i (m - 1) = 0) : HsTo n (m + 1) H := fun i j hi hj hm => by
  by_cases e : j + 1 < m
  · exact h i j hi hj e
  · rw [show j = m - 1 by omega]
    exact hz i (by omega) hi
theorem HsTo.conj {n m p : Nat} {H : Mx K} (h : HsTo n m H) (hm : m < n) (hp : m ≤ p) (hpn : p < n) : HsTo n m fun i j => H (tau p m i) (tau p m j) := fun i j hi hj hjm => by
  have e : tau p m j = j := by unfold tau; split; omega; split; omega; rfl
  show H (tau p m i) (tau p m j) = 0
  rw [e]
  refine h _ j ?_ ?_ hjm
  · unfold tau; split; omega; split; omega; exact hi
  · unfold tau; split; omega; split; omega; exact hj
theorem HsTo.elim {n m i : Nat} {H : Mx K} {u : K} (h : HsTo n m H) (hm : 1 ≤ m) (hmi : m < i) (hi : i < n) (h0 : H m (m - 1) ≠ 0) (hu : u = H i (m - 1) * (H m (m - 1))⁻¹) (hz : ∀ k, m < k → k < i → H k (m - 1) = 0) :
    HsTo n m (ecol (erow H i m u) i m u) ∧ ecol (erow H i m u) i m u m (m - 1) ≠ 0 ∧ ∀ k, m < k → k < i + 1 → ecol (erow H i m u) i m u k (m - 1) = 0 := by
  have hc : ∀ a j, j ≠ m → ecol (erow H i m u) i m u a j = erow H i m u a j := fun a j hj => if_neg hj
  have hr : ∀ a j, a ≠ i → erow H i m u a j = H a j := fun a j ha => by unfold erow; rw [setr_ne _ _ ha]
  have hri : ∀ j, erow H i m u i j = H i j + -u * H m j := fun j => by unfold erow; rw [setr_at]
  refine ⟨fun a j ha hj hjm => ?_, ?_, fun k h1 h2 => ?_⟩
  · rw [hc a j (by omega)]
    by_cases e : a = i
    · subst e
      rw [hri, h a j ha hj hjm, h m j (by omega) (by omega) hjm, mul_zero, add_zero]
    · rw [hr a j e]; exact h a j ha hj hjm
  · rw [hc m (m - 1) (by omega), hr m _ (by omega)]; exact h0
  · rw [hc k (m - 1) (by omega)]
    by_cases e : k = i
    · subst e
      rw [hri, hu, neg_mul, mul_assoc]
      have : (H m (m - 1))⁻¹ * H m (m - 1) = 1 := La.inv_mul _ h0
      rw [this, mul_one, add_neg_self]
    · rw [hr k _ e]; exact hz k h1 (by omega)
end
end Go.Lr

/- The polynomials of a matrix in Hessenberg form, one after another. No condition. -/
namespace Go.Lr
open Go.La (Mx setr setr_at setr_ne swap swap_at swap_ne skip skip_lt Fld)
variable {K : Type} [Rg K]
def pol (H : Mx K) : Nat → Nat → Nat → K
  | 0 => fun _ t => if t = 0 then 1 else 0
  | k + 1 => fun i t => if i ≤ k then pol H k i t else plc H k (pol H k) t
def pl (H : Mx K) (i : Nat) : Nat → K := pol H i i
theorem pol_pl (H : Mx K) : ∀ k i, i ≤ k → pol H k i = pl H i
  | 0, i, hi => by obtain rfl : i = 0 := by omega
                   rfl
  | k + 1, i, hi => by
    by_cases e : i ≤ k
    · have h1 := pol_pl H k i e
      funext t
      show (if i ≤ k then pol H k i t else plc H k (pol H k) t) = _
      rw [if_pos e, h1]
    · obtain rfl : i = k + 1 := by omega
      rfl
theorem pl_zero (H : Mx K) (t : Nat) : pl H 0 t = if t = 0 then 1 else 0 := rfl
theorem pl_succ (H : Mx K) (k t : Nat) : pl H (k + 1) t = plc H k (pl H) t := by
  show (if k + 1 ≤ k then pol H k (k + 1) t else plc H k (pol H k) t) = _
  rw [if_neg (by omega)]
  unfold plc
  rw [pol_pl H k k (Nat.le_refl k)]
  congr 2
  congr 1
  exact sm_congr fun i hi => by rw [pol_pl H k i (by omega)]
theorem pl_high {n : Nat} {H : Mx K} (hH : Hess n H) {k t : Nat} (hk : k ≤ n) (ht : k < t) : pl H k t = 0 :=
  ((hess_all hH (pl_zero H) fun k _ t => pl_succ H k t) k hk).1 t ht
theorem pl_cp {n : Nat} {H : Mx K} (hH : Hess n H) {t : Nat} (ht : t ≤ n) : pl H n t = cp n H (n - t) := by
  have h := ((hess_all hH (pl_zero H) fun k _ t => pl_succ H k t) n (Nat.le_refl n)).2 (n - t)
  rw [if_pos (by omega), show n - (n - t) = t by omega] at h
  exact h.symm
theorem pl_step {N : K} {i : Nat} {f : Nat → K} {c x y : K} (h : N + -(sm (i + 1) f) = y) (hc : c * x = f i) : N + -c * x + -(sm i f) = y := by
  rw [← h]
  show _ = N + -(sm i f + f i)
  rw [neg_add, neg_mul, hc, add_assoc, add_comm (-(f i))]
end Go.Lr

/- The inequality of Hadamard. No condition. -/
namespace Go.La
section
variable {K : Type} [Fld K]
end
def pd : Nat → (Nat → Rat) → Rat
  | 0, _ => 1
  | n + 1, f => pd n f * f n
def ip (n : Nat) (x y : Nat → Rat) : Rat := sm n fun j => x j * y j
end Go.La
