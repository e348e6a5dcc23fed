/- Texts of this seat's own, merged: each begins with its own remark. -/
import Derived.Test.YtlnmhjkagnfnaaaM19
/- Kernels and systems of equations. No condition. -/
namespace Go.La
section
variable {K : Type} [Fld K]

/-- A matrix beside the identity. -/
def aug (n : Nat) (T : Mx K) : Mx K := fun i j => if j < n then T i j else idm i (j - n)
theorem aug_l {n i j : Nat} {T : Mx K} (h : j < n) : aug n T i j = T i j := if_pos h
theorem aug_r {n i j : Nat} {T : Mx K} : aug n T i (n + j) = idm i j := by unfold aug; rw [if_neg (by omega), Nat.add_sub_cancel_left]

theorem sp_aug {m n : Nat} {T : Mx K} {v : Nat → K} : Sp m (n + m) (aug n T) v ↔ ∀ j, j < n → v j = sm m fun i => v (n + i) * T i j := by
  refine ⟨fun ⟨c, hc⟩ j hj => ?_, fun h => ⟨fun i => v (n + i), fun j hj => ?_⟩⟩
  · have h1 : ∀ t, t < m → v (n + t) = c t := fun t ht => by
      rw [hc (n + t) (by omega), sm_one t ht (fun k _ hk => by rw [aug_r]; unfold idm; rw [if_neg hk, mul_zero]), aug_r, idm, if_pos rfl, mul_one]
    rw [hc j (by omega)]
    exact sm_congr fun i hi => by rw [h1 i hi, aug_l hj]
  · rcases Nat.lt_or_ge j n with h1 | h1
    · rw [h j h1]
      exact sm_congr fun i _ => by rw [aug_l h1]
    · obtain ⟨t, rfl⟩ : ∃ t, j = n + t := ⟨j - n, by omega⟩
      rw [sm_one t (by omega) (fun k _ hk => by rw [aug_r]; unfold idm; rw [if_neg hk, mul_zero]), aug_r, idm, if_pos rfl, mul_one]

/-- Row vectors that T takes to nought. -/
def Ker (m n : Nat) (T : Mx K) (x : Nat → K) : Prop := ∀ j, j < n → sm m (fun i => x i * T i j) = 0
/-- K is the echelon basis of the kernel, q its pivots. -/
structure KerOf (m n s : Nat) (T R : Mx K) (q : Nat → Nat) : Prop where
  ech : Ech s m R q
  sp : ∀ x, Ker m n T x ↔ Sp s m R x

theorem KerOf.unique {m n s s' : Nat} {T R R' : Mx K} {q q' : Nat → Nat} (h : KerOf m n s T R q) (h' : KerOf m n s' T R' q') : s = s' ∧ (∀ i, i < s → q i = q' i) ∧ ∀ i j, i < s → j < m → R i j = R' i j :=
  h.ech.unique h'.ech ⟨fun _ hi => (h'.sp _).1 ((h.sp _).2 (Sp.row hi)), fun _ hi => (h.sp _).1 ((h'.sp _).2 (Sp.row hi))⟩

theorem Ker.shift {m n : Nat} {T : Mx K} {x : Nat → K} : Ker m n T x ↔ Sp m (n + m) (aug n T) (fun j => if j < n then 0 else x (j - n)) := by
  rw [sp_aug]
  refine ⟨fun h j hj => ?_, fun h j hj => ?_⟩
  · rw [if_pos hj, ← h j hj]
    exact sm_congr fun i _ => by rw [if_neg (by omega), Nat.add_sub_cancel_left]
  · have := h j hj
    rw [if_pos hj] at this
    rw [this]
    exact sm_congr fun i _ => by rw [if_neg (by omega), Nat.add_sub_cancel_left]
theorem Ker.of_sp {m n : Nat} {T : Mx K} {v : Nat → K} (h : Sp m (n + m) (aug n T) v) (hz : ∀ j, j < n → v j = 0) : Ker m n T (fun i => v (n + i)) := fun j hj => by
  rw [← sp_aug.1 h j hj]; exact hz j hj

/-- After elimination among the first columns of [T|I]. -/
theorem red_left {m n r : Nat} {T R : Mx K} {p : Nat → Nat} {d : K} (h : Red m (n + m) n r (aug n T) R p d) : Ech r n R p ∧ Same r m n R T := by
  refine ⟨⟨h.below, h.ech.mono, h.ech.one, h.ech.zero⟩, ⟨fun i hi => ?_, fun i hi => ?_⟩⟩
  · exact ((h.span.lt i (by have := h.le; omega)).cut (Nat.le_add_right n m)).congr (fun a j _ hj => aug_l hj) (fun _ _ => rfl)
  · have h3 : Sp m n R (T i) := ((h.span.rt i hi).cut (Nat.le_add_right n m)).congr (fun _ _ _ _ => rfl) (fun j hj => aug_l hj)
    obtain ⟨c, hc⟩ := h3
    refine ⟨c, fun j hj => ?_⟩
    have hr := h.le
    rw [hc j hj, show m = r + (m - r) by omega, sm_app, sm_zero (n := m - r) (fun k hk => by rw [h.zero (r + k) j (by omega) (by omega) hj, mul_zero]), add_zero]

theorem red_ker {m n r : Nat} {T R : Mx K} {p : Nat → Nat} {d : K} (h : Red m (n + m) n r (aug n T) R p d) (x : Nat → K) : Ker m n T x ↔ Sp (m - r) m (fun i j => R (r + i) (n + j)) x := by
  have hr := h.le
  refine ⟨fun hx => ?_, fun ⟨c, hc⟩ => ?_⟩
  · obtain ⟨c, hc⟩ := (Ker.shift.1 hx).trans h.span.rt
    -- the coefficients of the first r rows are nought
    have hz : ∀ i, i < r → c i = 0 := fun i hi => by
      have h1 := h.below i hi
      have h2 := hc (p i) (by omega)
      simp only at h2
      rw [if_pos h1, sm_one i (by omega) (fun k hk hne => by
        rcases Nat.lt_or_ge k r with h3 | h3
        · rw [h.ech.one k i h3 hi, if_neg hne, mul_zero]
        · rw [h.zero k (p i) h3 hk h1, mul_zero]), h.ech.one i i hi hi, if_pos rfl, mul_one] at h2
      exact h2.symm
    refine ⟨fun i => c (r + i), fun j hj => ?_⟩
    have h2 := hc (n + j) (by omega)
    simp only at h2
    rw [if_neg (by omega), Nat.add_sub_cancel_left] at h2
    have hm : sm m (fun i => c i * R i (n + j)) = sm (r + (m - r)) (fun i => c i * R i (n + j)) := by rw [show r + (m - r) = m by omega]
    rw [h2, hm, sm_app, sm_zero (n := r) (fun i hi => by rw [hz i hi, zero_mul]), zero_add]
  · have h3 : Sp m (n + m) R (fun j => sm (m - r) fun i => c i * R (r + i) j) := Sp.sum c (fun i => R (r + i)) fun i hi => Sp.row (by omega)
    have h4 := Ker.of_sp (h3.trans h.span.lt) (fun j hj => sm_zero fun i hi => by rw [h.zero (r + i) j (by omega) (by omega) hj, mul_zero])
    intro j hj
    rw [← h4 j hj]
    exact sm_congr fun i hi => by rw [hc i hi]

/-- The rows that are left are independent: their echelon form is as long. -/
theorem red_kerof {m n r r2 : Nat} {T R K2 : Mx K} {p p2 : Nat → Nat} {d : K} (h : Red m (n + m) n r (aug n T) R p d) (h2 : Ech r2 m K2 p2) (e2 : Same r2 (m - r) m K2 (fun i j => R (r + i) (n + j))) : KerOf m n r2 T K2 p2 ∧ r2 = m - r := by
  have hr := h.le
  refine ⟨⟨h2, fun x => (red_ker h x).trans e2.sp.symm⟩, Nat.le_antisymm (h2.le e2.lt) ?_⟩
  -- [T|I] lies in the span of r rows and of r2
  have h3 : m ≤ r + r2 := by
    refine indep_le (n := n + m) (A := aug n T) (B := stack r R (fun i j => if j < n then 0 else K2 i (j - n))) (fun i hi => (h.span.rt i hi).trans fun k hk => ?_) fun x hx i hi => ?_
    · rcases Nat.lt_or_ge k r with h3 | h3
      · have := Sp.row (n := n + m) (A := stack r R (fun i j => if j < n then 0 else K2 i (j - n))) (i := k) (r := r + r2) (by omega)
        rwa [stack_lt h3] at this
      · obtain ⟨u, rfl⟩ : ∃ u, k = r + u := ⟨k - r, by omega⟩
        obtain ⟨c, hc⟩ := e2.rt u (by omega)
        have h4 : Sp (r + r2) (n + m) (stack r R (fun i j => if j < n then 0 else K2 i (j - n))) (fun j => sm r2 fun i => c i * (if j < n then 0 else K2 i (j - n))) :=
          Sp.sum c (fun i j => if j < n then 0 else K2 i (j - n)) fun i hi => by
            have := Sp.row (n := n + m) (A := stack r R (fun i j => if j < n then 0 else K2 i (j - n))) (i := r + i) (r := r + r2) (by omega)
            rwa [stack_add] at this
        refine h4.congr (fun _ _ _ _ => rfl) (fun j hj => ?_)
        rcases Nat.lt_or_ge j n with h5 | h5
        · rw [h.zero (r + u) j (by omega) hk h5]
          exact sm_zero fun i _ => by rw [if_pos h5, mul_zero]
        · have h6 := hc (j - n) (by omega)
          simp only at h6
          rw [show n + (j - n) = j by omega] at h6
          rw [h6]
          exact sm_congr fun i _ => by rw [if_neg (by omega)]
    · have := hx (n + i) (by omega)
      rwa [sm_one i hi (fun k _ hk => by rw [aug_r]; unfold idm; rw [if_neg hk, mul_zero]), aug_r, idm, if_pos rfl, mul_one] at this
  omega

/-! ### systems of equations -/
/-- x * T = b. -/
def Sol (m n : Nat) (T : Mx K) (b x : Nat → K) : Prop := ∀ j, j < n → b j = sm m fun i => x i * T i j
theorem Sol.sub {m n : Nat} {T : Mx K} {b x y : Nat → K} (h : Sol m n T b x) (h' : Sol m n T b y) : Ker m n T (fun i => x i + -y i) := fun j hj => by
  have h1 : (sm m fun i => (x i + -y i) * T i j) = (sm m fun i => x i * T i j) + -(sm m fun i => y i * T i j) := by
    rw [← sm_neg, ← sm_add]
    exact sm_congr fun i _ => by rw [add_mul, neg_mul]
  rw [h1, ← h j hj, ← h' j hj, add_neg_self]
/-- The solution that is nought at the pivots of the kernel. -/
def SolOf (m n : Nat) (T : Mx K) (b x : Nat → K) : Prop := Sol m n T b x ∧ ∃ s R q, KerOf m n s T R q ∧ ∀ i, i < s → x (q i) = 0
theorem SolOf.unique {m n : Nat} {T : Mx K} {b x y : Nat → K} (h : SolOf m n T b x) (h' : SolOf m n T b y) : ∀ i, i < m → x i = y i := by
  obtain ⟨h1, s, R, q, hk, hz⟩ := h
  obtain ⟨h1', s', R', q', hk', hz'⟩ := h'
  obtain ⟨rfl, hq, -⟩ := hk.unique hk'
  intro i hi
  have h2 := hk.ech.coef ((hk.sp _).1 (h1.sub h1')) hi
  rw [sm_zero (fun t ht => by rw [hz t ht]; have := hz' t ht; rw [← hq t ht] at this; rw [this, neg_zero, add_zero, zero_mul])] at h2
  exact eq_of_sub h2

end
end Go.La

/- Rows times an invertible matrix. No condition. -/
namespace Go.La
section
variable {K : Type} [Fld K]

end
end Go.La

/- Solving by what is left. No condition. -/
namespace Go.La
section
variable {K : Type} [Fld K]

theorem sm_lin {m : Nat} (X N : Nat → K) (f : K) (T : Nat → K) : (sm m fun t => (X t + f * N t) * T t) = (sm m fun t => X t * T t) + f * sm m fun t => N t * T t := by
  rw [← sm_mul, ← sm_add]
  exact sm_congr fun t _ => by rw [add_mul, mul_assoc]
theorem Sol.add {m n : Nat} {T : Mx K} {b X k : Nat → K} (h : Sol m n T b X) (hk : Ker m n T k) (f : K) : Sol m n T b (fun t => X t + f * k t) := fun j hj => by
  rw [sm_lin X k f (fun t => T t j), hk j hj, mul_zero, add_zero]; exact h j hj

end
/-- Sizes that double. -/
def dbl (W k : Nat) : Nat → Nat
  | 0 => k
  | i + 1 => 2 * dbl W k i + W + 1
end Go.La

/- Solving by the echelon form of [T|I]. No condition. -/
namespace Go.La
section
variable {K : Type} [Fld K]

end
end Go.La
