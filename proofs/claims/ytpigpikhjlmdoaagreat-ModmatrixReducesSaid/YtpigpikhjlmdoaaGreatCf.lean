/- Rational reconstruction: what the division of the modulus by the residue finds. No condition. -/
namespace Go.Rc

/-- Two rows of the division that follow one another. -/
structure Rec (x m most last n before d e : Int) : Prop where
  e1 : e = 1 ∨ e = -1
  det : last * d - n * before = e * m
  n0 : 0 ≤ n
  nl : n < last
  big : most < last
  dp : 1 ≤ e * d
  bp : e * before ≤ 0
  cn : m ∣ n - d * x
  cl : m ∣ last - before * x

theorem Rec.start {x m most n : Int} (h0 : 0 ≤ n) (h1 : n < m) (h2 : most < m) (hc : m ∣ n - x) : Rec x m most m n 0 1 1 :=
  ⟨.inl rfl, by omega, h0, h1, h2, by omega, by omega, by rwa [Int.one_mul], by rw [Int.zero_mul, Int.sub_zero]; exact Int.dvd_refl m⟩

theorem Rec.step {x m most last n before d e q r : Int} (h : Rec x m most last n before d e) (hn : most < n) (h0 : 0 < n) (hq : last = q * n + r) (hr0 : 0 ≤ r) (hr1 : r < n) : Rec x m most n r d (before - q * d) (-e) := by
  have hq1 : 1 ≤ q := by
    rcases Int.lt_or_le q 1 with h1 | h1
    · have := Int.mul_le_mul_of_nonneg_right (show q ≤ 0 by omega) (Int.le_of_lt h0)
      have := h.nl
      omega
    · exact h1
  have hE : e * (before - q * d) = e * before - q * (e * d) := by rw [Int.mul_sub, Int.mul_left_comm]
  refine ⟨by rcases h.e1 with e | e <;> omega, ?_, hr0, hr1, hn, ?_, ?_, ?_, h.cn⟩
  · have e1 := h.det
    have e2 : n * (before - q * d) - r * d = -(last * d - n * before) := by
      rw [hq, Int.mul_sub, Int.add_mul, Int.mul_left_comm n q d, Int.mul_assoc q n d]
      omega
    rw [e2, e1, Int.neg_mul]
  · rw [Int.neg_mul, hE]
    have h1 := Int.mul_le_mul_of_nonneg_right hq1 (show 0 ≤ e * d by have := h.dp; omega)
    have := h.dp
    have := h.bp
    omega
  · rw [Int.neg_mul]
    have := h.dp
    omega
  · have e1 : r - (before - q * d) * x = (last - before * x) - q * (n - d * x) := by
      rw [hq, Int.mul_sub, Int.sub_mul, Int.mul_assoc]
      omega
    rw [e1]
    exact Int.dvd_sub h.cl (Int.dvd_mul_of_dvd_right h.cn)

theorem Rec.dm {x m most last n before d e : Int} (h : Rec x m most last n before d e) (h0 : 0 ≤ most) : d.natAbs ≤ m.natAbs := by
  have hl : 1 ≤ last := by have := h.big; omega
  have h1 := h.dp
  have h2 := h.bp
  have h3 := h.det
  have h4 := h.n0
  rcases h.e1 with e1 | e1 <;> subst e1
  · have k1 := Int.mul_le_mul_of_nonneg_right hl (show 0 ≤ d by omega)
    have k2 := Int.mul_nonneg h4 (show 0 ≤ -before by omega)
    simp only [Int.mul_neg] at k2
    omega
  · have k1 := Int.mul_le_mul_of_nonneg_right hl (show 0 ≤ -d by omega)
    have k2 := Int.mul_nonneg h4 (show 0 ≤ before by omega)
    simp only [Int.mul_neg] at k1
    omega
theorem Rec.bm {x m most last n before d e : Int} (h : Rec x m most last n before d e) (h0 : 0 ≤ most) (hn : 1 ≤ n) : before.natAbs ≤ m.natAbs := by
  have hl : 1 ≤ last := by have := h.big; omega
  have h1 := h.dp
  have h2 := h.bp
  have h3 := h.det
  rcases h.e1 with e1 | e1 <;> subst e1
  · have k1 := Int.mul_nonneg (show 0 ≤ last by omega) (show 0 ≤ d by omega)
    have k2 := Int.mul_le_mul_of_nonneg_right hn (show 0 ≤ -before by omega)
    simp only [Int.mul_neg, Int.one_mul] at k2
    omega
  · have k1 := Int.mul_nonneg (show 0 ≤ last by omega) (show 0 ≤ -d by omega)
    have k2 := Int.mul_le_mul_of_nonneg_right hn (show 0 ≤ before by omega)
    simp only [Int.mul_neg] at k1
    omega

theorem abs_mul_le {a b c d : Int} (h1 : -c ≤ a) (h2 : a ≤ c) (h3 : 0 ≤ b) (h4 : b ≤ d) : -(c * d) ≤ a * b ∧ a * b ≤ c * d := by
  have h0 : 0 ≤ c := by omega
  have e1 : c * b ≤ c * d := Int.mul_le_mul_of_nonneg_left h4 h0
  have e2 : a * b ≤ c * b := Int.mul_le_mul_of_nonneg_right h2 h3
  have e3 : -c * b ≤ a * b := Int.mul_le_mul_of_nonneg_right h1 h3
  rw [Int.neg_mul] at e3
  omega

/-- Every small fraction of the class is a multiple of the first small row. -/
theorem Rec.complete {x m most last n before d e n' d' : Int} (h : Rec x m most last n before d e) (hn : n ≤ most) (hm : 2 * (most * most) < m) (hd1 : 1 ≤ d') (hd2 : d' ≤ most) (hn1 : -most ≤ n') (hn2 : n' ≤ most) (hc : m ∣ n' - d' * x) :
    ∃ b : Int, n' = b * n ∧ d' = b * d := by
  have hm0 : 0 < m := by
    have := Int.mul_nonneg (show 0 ≤ most by omega) (show 0 ≤ most by omega)
    omega
  have hee : e * e = 1 := by rcases h.e1 with e | e <;> subst e <;> decide
  have c1 : m ∣ n' * d - n * d' := by
    have e1 : n' * d - n * d' = (n' - d' * x) * d - (n - d * x) * d' := by
      rw [Int.sub_mul, Int.sub_mul, show d' * x * d = d * x * d' by rw [Int.mul_comm, ← Int.mul_assoc, Int.mul_comm d d', Int.mul_assoc, Int.mul_comm d', Int.mul_comm]]
      omega
    rw [e1]
    exact Int.dvd_sub (Int.dvd_mul_of_dvd_left hc) (Int.dvd_mul_of_dvd_left h.cn)
  have c2 : m ∣ last * d' - n' * before := by
    have e1 : last * d' - n' * before = (last - before * x) * d' - (n' - d' * x) * before := by
      rw [Int.sub_mul, Int.sub_mul, show d' * x * before = before * x * d' by rw [Int.mul_comm, ← Int.mul_assoc, Int.mul_comm before d', Int.mul_assoc, Int.mul_comm d', Int.mul_comm]]
      omega
    rw [e1]
    exact Int.dvd_sub (Int.dvd_mul_of_dvd_left h.cl) (Int.dvd_mul_of_dvd_left hc)
  obtain ⟨k, hk⟩ := c1
  obtain ⟨l, hl⟩ := c2
  have key1 : n' = e * k * last + e * l * n := by
    refine Int.eq_of_mul_eq_mul_left (a := m) (by omega) ?_
    have e1 : m * (e * k * last + e * l * n) = e * ((m * k) * last + (m * l) * n) := by
      rw [Int.mul_add, Int.mul_add]
      simp only [Int.mul_left_comm, Int.mul_comm]
    have e2 : (n' * d - n * d') * last + (last * d' - n' * before) * n = n' * (last * d - n * before) := by
      rw [Int.sub_mul, Int.sub_mul, Int.mul_sub, show n * d' * last = last * d' * n by rw [Int.mul_comm (n * d'), Int.mul_comm n d', Int.mul_assoc], show n' * d * last = n' * (last * d) by rw [Int.mul_assoc, Int.mul_comm d], show n' * before * n = n' * (n * before) by rw [Int.mul_assoc, Int.mul_comm before]]
      omega
    rw [e1, ← hk, ← hl, e2, h.det, Int.mul_left_comm e n', ← Int.mul_assoc e e m, hee, Int.one_mul, Int.mul_comm]
  have key2 : d' = e * k * before + e * l * d := by
    refine Int.eq_of_mul_eq_mul_left (a := m) (by omega) ?_
    have e1 : m * (e * k * before + e * l * d) = e * ((m * k) * before + (m * l) * d) := by
      rw [Int.mul_add, Int.mul_add]
      simp only [Int.mul_left_comm, Int.mul_comm]
    have e2 : (n' * d - n * d') * before + (last * d' - n' * before) * d = d' * (last * d - n * before) := by
      rw [Int.sub_mul, Int.sub_mul, Int.mul_sub, show n' * before * d = n' * d * before by rw [Int.mul_assoc, Int.mul_comm before, ← Int.mul_assoc], show last * d' * d = d' * (last * d) by rw [Int.mul_comm last, Int.mul_assoc], show n * d' * before = d' * (n * before) by rw [Int.mul_comm n, Int.mul_assoc]]
      omega
    rw [e1, ← hk, ← hl, e2, h.det, Int.mul_left_comm e d', ← Int.mul_assoc e e m, hee, Int.one_mul, Int.mul_comm]
  have hk0 : k = 0 := by
    rcases Int.lt_trichotomy (e * k) 0 with h1 | h1 | h1
    rotate_left
    · rcases h.e1 with e1 | e1 <;> subst e1 <;> omega
    all_goals
      exfalso
      have hD : e * d ≤ d' := by
        have ed : e * d' = (e * k) * (e * before) + (e * l) * (e * d) := by
          have e1 : e * (e * k * before + e * l * d) = (e * k) * (e * before) + (e * l) * (e * d) := by
            rw [Int.mul_add]
            simp only [Int.mul_left_comm, Int.mul_comm]
          rw [← e1, ← key2]
        have hed : e * d' ≤ d' ∧ -d' ≤ e * d' := by rcases h.e1 with e1 | e1 <;> subst e1 <;> omega
        first
          | (have hl1 : 1 ≤ e * l := by
               rcases Int.lt_or_le (e * l) 1 with h2 | h2
               · have h3 := Int.mul_le_mul_of_nonneg_right (show e * l ≤ 0 by omega) h.n0
                 have h4 := Int.mul_le_mul_of_nonneg_right (show e * k ≤ -1 by omega) (show 0 ≤ last by have := h.nl; have := h.n0; omega)
                 have := h.big
                 omega
               · exact h2
             have h5 := Int.mul_nonneg_of_nonpos_of_nonpos (show e * k ≤ 0 by omega) h.bp
             have h6 := Int.mul_le_mul_of_nonneg_right hl1 (show 0 ≤ e * d by have := h.dp; omega)
             omega)
          | (have hl1 : e * l ≤ -1 := by
               rcases Int.lt_or_le (-1) (e * l) with h2 | h2
               · have h3 := Int.mul_nonneg (show 0 ≤ e * l by omega) h.n0
                 have h4 := Int.mul_le_mul_of_nonneg_right (show 1 ≤ e * k by omega) (show 0 ≤ last by have := h.nl; have := h.n0; omega)
                 have := h.big
                 omega
               · exact h2
             have h5 := Int.mul_nonpos_of_nonneg_of_nonpos (show 0 ≤ e * k by omega) h.bp
             have h6 := Int.mul_le_mul_of_nonneg_right hl1 (show 0 ≤ e * d by have := h.dp; omega)
             omega)
      have b1 := abs_mul_le hn1 hn2 (show 0 ≤ e * d by have := h.dp; omega) (show e * d ≤ most by omega)
      have b2 := abs_mul_le (a := n) (c := most) (by have := h.n0; omega) hn (show 0 ≤ d' by omega) hd2
      have b3 : n' * d = n' * (e * d) ∨ n' * d = -(n' * (e * d)) := by
        rcases h.e1 with e1 | e1 <;> subst e1
        · exact .inl (by rw [Int.one_mul])
        · exact .inr (by rw [Int.neg_mul, Int.one_mul, Int.mul_neg, Int.neg_neg])
      have b4 : -m < m * k ∧ m * k < m := by omega
      have hkz : k = 0 := by
        rcases Int.lt_trichotomy k 0 with h2 | h2 | h2
        · have := Int.mul_le_mul_of_nonneg_left (show k ≤ -1 by omega) (Int.le_of_lt hm0)
          omega
        · exact h2
        · have := Int.mul_le_mul_of_nonneg_left (show 1 ≤ k by omega) (Int.le_of_lt hm0)
          omega
      rw [hkz, Int.mul_zero] at h1
      omega
  refine ⟨e * l, ?_, ?_⟩
  · rw [hk0, Int.mul_zero, Int.zero_mul, Int.zero_add] at key1; exact key1
  · rw [hk0, Int.mul_zero, Int.zero_mul, Int.zero_add] at key2; exact key2

/-- Two small fractions of the class have the same value. -/
theorem unique {x m most n1 d1 n2 d2 : Int} (hm : 2 * (most * most) < m) (h1 : -most ≤ n1) (h2 : n1 ≤ most) (h3 : 0 ≤ d1) (h4 : d1 ≤ most) (k1 : -most ≤ n2) (k2 : n2 ≤ most) (k3 : 0 ≤ d2) (k4 : d2 ≤ most) (c1 : m ∣ n1 - d1 * x) (c2 : m ∣ n2 - d2 * x) : n1 * d2 = n2 * d1 := by
  have c : m ∣ n1 * d2 - n2 * d1 := by
    have e1 : n1 * d2 - n2 * d1 = (n1 - d1 * x) * d2 - (n2 - d2 * x) * d1 := by
      rw [Int.sub_mul, Int.sub_mul, show d2 * x * d1 = d1 * x * d2 by rw [Int.mul_comm, ← Int.mul_assoc, Int.mul_comm d1 d2, Int.mul_assoc, Int.mul_comm d2, Int.mul_comm]]
      omega
    rw [e1]
    exact Int.dvd_sub (Int.dvd_mul_of_dvd_left c1) (Int.dvd_mul_of_dvd_left c2)
  obtain ⟨k, hk⟩ := c
  have b1 := abs_mul_le h1 h2 k3 k4
  have b2 := abs_mul_le k1 k2 h3 h4
  have hm0 : 0 < m := by
    have := Int.mul_nonneg (show 0 ≤ most by omega) (show 0 ≤ most by omega)
    omega
  have hkz : k = 0 := by
    rcases Int.lt_trichotomy k 0 with h2 | h2 | h2
    · have := Int.mul_le_mul_of_nonneg_left (show k ≤ -1 by omega) (Int.le_of_lt hm0)
      omega
    · exact h2
    · have := Int.mul_le_mul_of_nonneg_left (show 1 ≤ k by omega) (Int.le_of_lt hm0)
      omega
  rw [hkz, Int.mul_zero] at hk
  omega
end Go.Rc
