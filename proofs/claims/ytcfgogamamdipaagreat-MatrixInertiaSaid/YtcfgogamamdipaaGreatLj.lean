/- Symmetric forms: orthogonal bases, Sylvester's law of inertia. No condition. -/
import Derived.Test.YtcfgogamamdipaaGreatM19
namespace Go.La
section
variable {K : Type} [Fld K]

/-- x A y. -/
def bl (n : Nat) (A : Mx K) (x y : Nat → K) : K := sm n fun j => (sm n fun i => x i * A i j) * y j

theorem bl_congr {n : Nat} {A B : Mx K} {x x' y y' : Nat → K} (hA : ∀ i j, i < n → j < n → A i j = B i j) (hx : ∀ j, j < n → x j = x' j) (hy : ∀ j, j < n → y j = y' j) : bl n A x y = bl n B x' y' :=
  sm_congr fun j hj => by rw [hy j hj, sm_congr fun i hi => by rw [hx i hi, hA i j hi hj]]
theorem bl_left {n r : Nat} {A T : Mx K} {c x y : Nat → K} (h : ∀ j, j < n → x j = sm r fun k => c k * T k j) : bl n A x y = sm r fun k => c k * bl n A (T k) y := by
  have e1 : ∀ j, j < n → (sm n fun i => x i * A i j) * y j = sm r fun k => c k * ((sm n fun i => T k i * A i j) * y j) := fun j hj => by
    rw [sm_congr (f := fun i => x i * A i j) (g := fun i => sm r fun k => c k * (T k i * A i j)) fun i hi => by
      rw [h i hi, ← sm_mul']; exact sm_congr fun k _ => mul_assoc _ _ _]
    rw [sm_comm, ← sm_mul']
    exact sm_congr fun k _ => by rw [sm_mul, mul_assoc]
  unfold bl
  rw [sm_congr e1, sm_comm]
  exact sm_congr fun k _ => sm_mul _ _ _
theorem bl_right {n r : Nat} {A T : Mx K} {c x y : Nat → K} (h : ∀ j, j < n → y j = sm r fun k => c k * T k j) : bl n A x y = sm r fun k => c k * bl n A x (T k) := by
  have e1 : ∀ j, j < n → (sm n fun i => x i * A i j) * y j = sm r fun k => c k * ((sm n fun i => x i * A i j) * T k j) := fun j hj => by
    rw [h j hj, ← sm_mul]; exact sm_congr fun k _ => mul_left_comm _ _ _
  unfold bl
  rw [sm_congr e1, sm_comm]
  exact sm_congr fun k _ => sm_mul _ _ _
theorem bl_comb_left {n : Nat} {A : Mx K} {u v y : Nat → K} (t : K) : bl n A (fun j => u j + t * v j) y = bl n A u y + t * bl n A v y := by
  unfold bl
  rw [← sm_mul, ← sm_add]
  refine sm_congr fun j _ => ?_
  rw [← mul_assoc, ← sm_mul, ← add_mul, ← sm_add]
  congr 1
  exact sm_congr fun i _ => by rw [add_mul, mul_assoc]
theorem bl_comb_right {n : Nat} {A : Mx K} {x u v : Nat → K} (t : K) : bl n A x (fun j => u j + t * v j) = bl n A x u + t * bl n A x v := by
  unfold bl
  rw [← sm_mul, ← sm_add]
  exact sm_congr fun j _ => by rw [mul_add, mul_left_comm]
theorem bl_symm {n : Nat} {A : Mx K} (h : ∀ i j, i < n → j < n → A i j = A j i) (x y : Nat → K) : bl n A x y = bl n A y x := by
  unfold bl
  rw [sm_congr (f := fun j => (sm n fun i => x i * A i j) * y j) (g := fun j => sm n fun i => x i * A i j * y j) fun j _ => (sm_mul' _ _ _).symm, sm_comm]
  refine sm_congr fun i hi => ?_
  rw [← sm_mul']
  exact sm_congr fun j hj => by rw [h i j hi hj, mul_comm (y j), mul_comm (x i), mul_assoc, mul_assoc, mul_comm (x i)]
theorem bl_unit {n i j : Nat} {A : Mx K} (hi : i < n) (hj : j < n) : bl n A (idm i) (idm j) = A i j := by
  unfold bl
  rw [sm_one j hj fun k _ hk => by unfold idm; rw [if_neg (Ne.symm hk), mul_zero], sm_one i hi fun k _ hk => by unfold idm; rw [if_neg (Ne.symm hk), zero_mul]]
  unfold idm
  rw [if_pos rfl, if_pos rfl, one_mul, mul_one]
theorem sp_all {n : Nat} (x : Nat → K) : Sp n n (idm : Mx K) x := ⟨x, fun j hj => by
  rw [sm_one j hj fun k _ hk => by unfold idm; rw [if_neg hk, mul_zero]]
  unfold idm; rw [if_pos rfl, mul_one]⟩
/-- The rows x A. -/
theorem bl_row {n : Nat} {A : Mx K} {x : Nat → K} {j : Nat} (hj : j < n) : bl n A x (idm j) = sm n fun i => x i * A i j := by
  unfold bl
  rw [sm_one j hj fun k _ hk => by unfold idm; rw [if_neg (Ne.symm hk), mul_zero]]
  unfold idm; rw [if_pos rfl, mul_one]
/-- A congruent matrix: its values are those at the images. -/
theorem bl_mul {n : Nat} {A C : Mx K} {x y : Nat → K} : bl n (mm n (mm n C A) (tr C)) x y = bl n A (fun j => sm n fun i => x i * C i j) (fun j => sm n fun i => y i * C i j) := by
  rw [bl_left (T := C) (r := n) (c := x) (fun _ _ => rfl)]
  have e : ∀ k, k < n → bl n A (C k) (fun j => sm n fun i => y i * C i j) = sm n fun l => y l * mm n (mm n C A) (tr C) k l := fun k _ => by
    rw [bl_right (T := C) (r := n) (c := y) (fun _ _ => rfl)]
    exact sm_congr fun l _ => rfl
  rw [sm_congr fun k hk => by rw [e k hk]]
  unfold bl
  rw [sm_congr (f := fun j => (sm n fun i => x i * mm n (mm n C A) (tr C) i j) * y j) (g := fun j => sm n fun i => x i * (y j * mm n (mm n C A) (tr C) i j)) fun j _ => by
    rw [← sm_mul']; exact sm_congr fun i _ => by rw [mul_assoc, mul_comm (y j)], sm_comm]
  exact sm_congr fun i _ => sm_mul _ _ _
end

/-- Three lists of vectors, pairwise orthogonal: with positive, with negative values, and a part where the form is 0; together they give everything. -/
structure Sig (n p m w : Nat) (A P N W : Mx Rat) : Prop where
  pp : ∀ i, i < p → 0 < bl n A (P i) (P i)
  nn : ∀ i, i < m → bl n A (N i) (N i) < 0
  po : ∀ i j, i < p → j < p → i ≠ j → bl n A (P i) (P j) = 0
  no : ∀ i j, i < m → j < m → i ≠ j → bl n A (N i) (N j) = 0
  wo : ∀ i j, i < w → j < w → bl n A (W i) (W j) = 0
  pn : ∀ i j, i < p → j < m → bl n A (P i) (N j) = 0
  wp : ∀ i j, i < w → j < p → bl n A (W i) (P j) = 0
  wn : ∀ i j, i < w → j < m → bl n A (W i) (N j) = 0
  all : ∀ x, Sp (p + (m + w)) n (stack p P (stack m N W)) x

theorem sm_nonneg : ∀ {n : Nat} {f : Nat → Rat}, (∀ k, k < n → 0 ≤ f k) → 0 ≤ sm n f
  | 0, _, _ => Rat.le_refl
  | n + 1, f, h => by
    show 0 ≤ sm n f + f n
    have h1 := sm_nonneg (n := n) (f := f) fun k hk => h k (by omega)
    have h2 := h n (by omega)
    grind
theorem sm_pos {n : Nat} {f : Nat → Rat} (h : ∀ k, k < n → 0 ≤ f k) {t : Nat} (ht : t < n) (h0 : 0 < f t) : 0 < sm n f := by
  induction n with
  | zero => omega
  | succ n ih =>
    show 0 < sm n f + f n
    by_cases e : t = n
    · have h1 := sm_nonneg (n := n) (f := f) fun k hk => h k (by omega)
      subst e
      grind
    · have h1 := ih (fun k hk => h k (by omega)) (by omega)
      have h2 := h n (by omega)
      grind
theorem sq_nonneg (x : Rat) : 0 ≤ x * x := by
  by_cases h : 0 ≤ x
  · exact Rat.mul_nonneg h h
  · have h1 : 0 ≤ -x := by grind
    have := Rat.mul_nonneg h1 h1
    grind
theorem sq_pos {x : Rat} (h : x ≠ 0) : 0 < x * x := by
  have h1 := sq_nonneg x
  have h2 : x * x ≠ 0 := mul_ne h h
  grind

theorem sum_three {n p m w : Nat} {P N W : Mx Rat} {x : Nat → Rat} (h : Sp (p + (m + w)) n (stack p P (stack m N W)) x) :
    ∃ a b c : Nat → Rat, ∀ j, j < n → x j = (sm p fun i => a i * P i j) + ((sm m fun i => b i * N i j) + sm w fun i => c i * W i j) := by
  obtain ⟨c, h⟩ := h
  refine ⟨c, fun i => c (p + i), fun i => c (p + (m + i)), fun j hj => ?_⟩
  rw [h j hj, sm_app, sm_app]
  congr 1
  · exact sm_congr fun k hk => by rw [stack_lt hk]
  · congr 1
    · exact sm_congr fun k hk => by rw [stack_add, stack_lt hk]
    · exact sm_congr fun k hk => by rw [stack_add, stack_add]

theorem bl_three {n p m w : Nat} {A P N W : Mx Rat} {x a b c : Nat → Rat} (y : Nat → Rat) (h : ∀ j, j < n → x j = (sm p fun i => a i * P i j) + ((sm m fun i => b i * N i j) + sm w fun i => c i * W i j)) :
    bl n A x y = (sm p fun i => a i * bl n A (P i) y) + ((sm m fun i => b i * bl n A (N i) y) + sm w fun i => c i * bl n A (W i) y) := by
  have e : ∀ j, j < n → x j = (sm p fun i => a i * P i j) + (1 : Rat) * ((sm m fun i => b i * N i j) + (1 : Rat) * sm w fun i => c i * W i j) := fun j hj => by
    rw [h j hj, Rat.one_mul, Rat.one_mul]
  rw [bl_congr (B := A) (x' := fun j => (sm p fun i => a i * P i j) + (1 : Rat) * ((sm m fun i => b i * N i j) + (1 : Rat) * sm w fun i => c i * W i j)) (y' := y) (fun _ _ _ _ => rfl) e (fun _ _ => rfl),
    bl_comb_left, bl_comb_left, Rat.one_mul, Rat.one_mul, bl_left (T := P) (r := p) (c := a) (fun _ _ => rfl), bl_left (T := N) (r := m) (c := b) (fun _ _ => rfl), bl_left (T := W) (r := w) (c := c) (fun _ _ => rfl)]

theorem Sig.le {n p m w p' m' w' : Nat} {A P N W P' N' W' : Mx Rat} (hA : ∀ i j, i < n → j < n → A i j = A j i) (h : Sig n p m w A P N W) (h' : Sig n p' m' w' A P' N' W') : p ≤ p' := by
  refine Classical.byContradiction fun hlt => ?_
  obtain ⟨x, ⟨t, ht, hx⟩, hz⟩ := kernel_ne p' p (fun i j => bl n A (P' i) (P j)) (by omega)
  obtain ⟨u, hu⟩ : ∃ u : Nat → Rat, u = fun j => sm p fun i => x i * P i j := ⟨_, rfl⟩
  have hpu : ∀ i, i < p → bl n A (P i) u = x i * bl n A (P i) (P i) := fun i hi => by
    rw [bl_right (T := P) (r := p) (c := x) (fun j _ => by rw [hu])]
    exact sm_one i hi fun k hk hne => by rw [h.po i k hi hk (Ne.symm hne), mul_zero]
  have hpos : 0 < bl n A u u := by
    rw [bl_left (T := P) (r := p) (c := x) (fun j _ => by rw [hu])]
    refine sm_pos (fun k hk => ?_) ht ?_
    · rw [hpu k hk, ← Rat.mul_assoc]
      exact Rat.mul_nonneg (sq_nonneg _) (Rat.le_of_lt (h.pp k hk))
    · rw [hpu t ht, ← Rat.mul_assoc]
      exact Rat.mul_pos (sq_pos hx) (h.pp t ht)
  obtain ⟨a, b, c, he⟩ := sum_three (h'.all u)
  have hP : ∀ i, i < p' → bl n A (P' i) u = 0 := fun i hi => by
    rw [bl_right (T := P) (r := p) (c := x) (fun j _ => by rw [hu])]
    rw [sm_congr fun k _ => mul_comm _ _]
    exact hz i hi
  have hN : ∀ i, i < m' → bl n A (N' i) u = b i * bl n A (N' i) (N' i) := fun i hi => by
    rw [bl_symm hA, bl_three _ he, sm_zero fun k hk => by rw [h'.pn k i hk hi, mul_zero], zero_add,
      sm_zero (n := w') fun k hk => by rw [h'.wn k i hk hi, mul_zero], add_zero]
    exact sm_one i hi fun k hk hne => by rw [h'.no k i hk hi hne, mul_zero]
  have hW : ∀ i, i < w' → bl n A (W' i) u = 0 := fun i hi => by
    rw [bl_symm hA, bl_three _ he, sm_zero fun k hk => by rw [bl_symm hA, h'.wp i k hi hk, mul_zero], zero_add,
      sm_zero (n := m') fun k hk => by rw [bl_symm hA, h'.wn i k hi hk, mul_zero], zero_add]
    exact sm_zero fun k hk => by rw [h'.wo k i hk hi, mul_zero]
  have hneg : bl n A u u ≤ 0 := by
    rw [bl_three u he, sm_zero fun k hk => by rw [hP k hk, mul_zero], zero_add, sm_zero (n := w') fun k hk => by rw [hW k hk, mul_zero], add_zero]
    have : 0 ≤ -(sm m' fun i => b i * bl n A (N' i) u) := by
      rw [← sm_neg]
      refine sm_nonneg fun k hk => ?_
      rw [hN k hk, ← Rat.mul_assoc, ← mul_neg]
      have := h'.nn k hk
      exact Rat.mul_nonneg (sq_nonneg _) (by grind)
    grind
  grind

theorem bl_negA {n : Nat} {A : Mx Rat} {x y : Nat → Rat} : bl n (fun i j => -A i j) x y = -bl n A x y := by
  unfold bl
  rw [← sm_neg]
  refine sm_congr fun j _ => ?_
  rw [← neg_mul, ← sm_neg]
  congr 1
  exact sm_congr fun i _ => mul_neg _ _

theorem Sig.neg {n p m w : Nat} {A P N W : Mx Rat} (hA : ∀ i j, i < n → j < n → A i j = A j i) (h : Sig n p m w A P N W) : Sig n m p w (fun i j => -A i j) N P W where
  pp := fun i hi => by rw [bl_negA]; have := h.nn i hi; grind
  nn := fun i hi => by rw [bl_negA]; have := h.pp i hi; grind
  po := fun i j hi hj hne => by rw [bl_negA, h.no i j hi hj hne, neg_zero]
  no := fun i j hi hj hne => by rw [bl_negA, h.po i j hi hj hne, neg_zero]
  wo := fun i j hi hj => by rw [bl_negA, h.wo i j hi hj, neg_zero]
  pn := fun i j hi hj => by rw [bl_negA, bl_symm hA, h.pn j i hj hi, neg_zero]
  wp := fun i j hi hj => by rw [bl_negA, h.wn i j hi hj, neg_zero]
  wn := fun i j hi hj => by rw [bl_negA, h.wp i j hi hj, neg_zero]
  all := fun x => by
    obtain ⟨a, b, c, h⟩ := sum_three (h.all x)
    refine ⟨fun i => if i < m then b i else if i < m + p then a (i - m) else c (i - m - p), fun j hj => ?_⟩
    rw [h j hj, sm_app, sm_app, add_left_comm]
    congr 1
    · exact sm_congr fun k hk => by rw [stack_lt hk]; simp only [if_pos hk]
    · congr 1
      · exact sm_congr fun k hk => by
          rw [stack_add, stack_lt hk]; simp only [if_neg (show ¬ m + k < m by omega), if_pos (show m + k < m + p by omega), show m + k - m = k by omega]
      · exact sm_congr fun k hk => by
          rw [stack_add, stack_add]; simp only [if_neg (show ¬ m + (p + k) < m by omega), if_neg (show ¬ m + (p + k) < m + p by omega), show m + (p + k) - m - p = k by omega]

/-- Sylvester's law of inertia. -/
theorem Sig.unique {n p m w p' m' w' : Nat} {A P N W P' N' W' : Mx Rat} (hA : ∀ i j, i < n → j < n → A i j = A j i) (h : Sig n p m w A P N W) (h' : Sig n p' m' w' A P' N' W') : p = p' ∧ m = m' := by
  have hB : ∀ i j, i < n → j < n → (fun i j => -A i j) i j = (fun i j => -A i j) j i := fun i j hi hj => by show -A i j = -A j i; rw [hA i j hi hj]
  exact ⟨Nat.le_antisymm (h.le hA h') (h'.le hA h), Nat.le_antisymm ((h.neg hA).le hB (h'.neg hA)) ((h'.neg hA).le hB (h.neg hA))⟩

theorem Sig.congr {n p m w : Nat} {A B P N W : Mx Rat} (h : Sig n p m w A P N W) (e : ∀ i j, i < n → j < n → A i j = B i j) : Sig n p m w B P N W := by
  have e1 : ∀ x y, bl n B x y = bl n A x y := fun x y => (bl_congr e (fun _ _ => rfl) (fun _ _ => rfl)).symm
  exact ⟨fun i hi => by rw [e1]; exact h.pp i hi, fun i hi => by rw [e1]; exact h.nn i hi, fun i j hi hj hn => by rw [e1]; exact h.po i j hi hj hn, fun i j hi hj hn => by rw [e1]; exact h.no i j hi hj hn,
    fun i j hi hj => by rw [e1]; exact h.wo i j hi hj, fun i j hi hj => by rw [e1]; exact h.pn i j hi hj, fun i j hi hj => by rw [e1]; exact h.wp i j hi hj, fun i j hi hj => by rw [e1]; exact h.wn i j hi hj, h.all⟩

/-- A congruent matrix has the same signs. -/
theorem Sig.image {n p m w : Nat} {A C P N W : Mx Rat} (h : Sig n p m w (mm n (mm n C A) (tr C)) P N W) (hC : ∀ x, Sp n n C x) :
    Sig n p m w A (fun k j => sm n fun i => P k i * C i j) (fun k j => sm n fun i => N k i * C i j) (fun k j => sm n fun i => W k i * C i j) where
  pp := fun i hi => by have := h.pp i hi; rw [bl_mul] at this; exact this
  nn := fun i hi => by have := h.nn i hi; rw [bl_mul] at this; exact this
  po := fun i j hi hj hne => by have := h.po i j hi hj hne; rw [bl_mul] at this; exact this
  no := fun i j hi hj hne => by have := h.no i j hi hj hne; rw [bl_mul] at this; exact this
  wo := fun i j hi hj => by have := h.wo i j hi hj; rw [bl_mul] at this; exact this
  pn := fun i j hi hj => by have := h.pn i j hi hj; rw [bl_mul] at this; exact this
  wp := fun i j hi hj => by have := h.wp i j hi hj; rw [bl_mul] at this; exact this
  wn := fun i j hi hj => by have := h.wn i j hi hj; rw [bl_mul] at this; exact this
  all := fun x => by
    obtain ⟨y, hy⟩ := hC x
    obtain ⟨c, hc⟩ := h.all y
    refine ⟨c, fun j hj => ?_⟩
    rw [hy j hj, sm_congr (f := fun i => y i * C i j) (g := fun i => sm (p + (m + w)) fun k => c k * (stack p P (stack m N W) k i * C i j)) fun i hi => by
      rw [hc i hi, ← sm_mul']; exact sm_congr fun k _ => mul_assoc _ _ _, sm_comm]
    refine sm_congr fun k _ => ?_
    rw [sm_mul]
    congr 1
    unfold stack
    split
    · rfl
    · split <;> rfl

/-- The signs add up to the rank. -/
theorem Sig.rank {n p m w r : Nat} {A P N W R : Mx Rat} {q : Nat → Nat} (hA : ∀ i j, i < n → j < n → A i j = A j i) (h : Sig n p m w A P N W) (hR : Ech r n R q) (e : Same r n n R A) : p + m = r := by
  obtain ⟨T, hT⟩ : ∃ T : Mx Rat, T = fun k j => sm n fun i => stack p P N k i * A i j := ⟨_, rfl⟩
  have hTb : ∀ k y, sm n (fun j => T k j * y j) = bl n A (stack p P N k) y := fun k y => by rw [hT]; rfl
  refine Nat.le_antisymm ?_ ?_
  · refine indep_le (A := T) (B := R) (n := n) (fun i hi => ?_) (fun x hx i hi => ?_)
    · refine Sp.trans (B := R) (A := A) (r := n) ⟨stack p P N i, fun j _ => by rw [hT]⟩ e.rt
    · have h1 : ∀ y : Nat → Rat, (sm (p + m) fun k => x k * bl n A (stack p P N k) y) = 0 := fun y => by
        rw [sm_congr (f := fun k => x k * bl n A (stack p P N k) y) (g := fun k => sm n fun j => (x k * T k j) * y j) fun k _ => by
          rw [← hTb, ← sm_mul]; exact sm_congr fun j _ => (mul_assoc _ _ _).symm, sm_comm]
        exact sm_zero fun j hj => by rw [sm_mul', hx j hj, zero_mul]
      have h2 := h1 (stack p P N i)
      rw [sm_one i hi fun k hk hne => by
        refine (congrArg _ ?_).trans (mul_zero _)
        by_cases k1 : k < p
        · rw [stack_lt k1]
          by_cases i1 : i < p
          · rw [stack_lt i1]; exact h.po k i k1 i1 hne
          · obtain ⟨t, rfl⟩ : ∃ t, i = p + t := ⟨i - p, by omega⟩
            rw [stack_add]; exact h.pn k t k1 (by omega)
        · obtain ⟨s, rfl⟩ : ∃ s, k = p + s := ⟨k - p, by omega⟩
          rw [stack_add]
          by_cases i1 : i < p
          · rw [stack_lt i1, bl_symm hA]; exact h.pn i s i1 (by omega)
          · obtain ⟨t, rfl⟩ : ∃ t, i = p + t := ⟨i - p, by omega⟩
            rw [stack_add]; exact h.no s t (by omega) (by omega) (by omega)] at h2
      rcases mul_eq_zero h2 with h3 | h3
      · exact h3
      · exfalso
        by_cases i1 : i < p
        · rw [stack_lt i1] at h3; have := h.pp i i1; grind
        · obtain ⟨t, rfl⟩ : ∃ t, i = p + t := ⟨i - p, by omega⟩
          rw [stack_add] at h3; have := h.nn t (by omega); grind
  · refine hR.le (B := T) fun i hi => Sp.trans (e.lt i hi) fun k hk => ?_
    obtain ⟨a, b, c, hx⟩ := sum_three (h.all (idm k))
    have hW : ∀ i, i < w → ∀ j, j < n → (sm n fun l => W i l * A l j) = 0 := fun i hi j hj => by
      obtain ⟨a, b, c, hx⟩ := sum_three (h.all (idm j))
      rw [← bl_row hj, bl_symm hA, bl_three _ hx, sm_zero fun k hk => by rw [bl_symm hA, h.wp i k hi hk, mul_zero], zero_add,
        sm_zero (n := m) fun k hk => by rw [bl_symm hA, h.wn i k hi hk, mul_zero], zero_add]
      exact sm_zero fun k hk => by rw [h.wo k i hk hi, mul_zero]
    refine ⟨fun i => if i < p then a i else b (i - p), fun j hj => ?_⟩
    have h1 : A k j = bl n A (idm k) (idm j) := (bl_unit hk hj).symm
    rw [h1, bl_three _ hx, sm_zero (n := w) fun i hi => by rw [bl_row hj, hW i hi j hj, mul_zero], add_zero, sm_app]
    congr 1
    · exact sm_congr fun i hi => by simp only [if_pos hi]; rw [bl_row hj, hT]; simp only [stack_lt hi]
    · exact sm_congr fun i hi => by simp only [if_neg (show ¬ p + i < p by omega), Nat.add_sub_cancel_left]; rw [bl_row hj, hT]; simp only [stack_add]

end Go.La
