/- Texts of this seat's own, merged: each begins with its own remark. -/
import Derived.Test.YtlnmhjkagnfnaaaM19
/- Symmetric forms: orthogonal bases, Sylvester's law of inertia. No condition. -/
namespace Go.La
section
variable {K : Type} [Fld K]

/-- x A y. -/
def bl (n : Nat) (A : Mx K) (x y : Nat → K) : K := sm n fun j => (sm n fun i => x i * A i j) * y j

theorem bl_congr {n : Nat} {A B : Mx K} {x x' y y' : Nat → K} (hA : ∀ i j, i < n → j < n → A i j = B i j) (hx : ∀ j, j < n → x j = x' j) (hy : ∀ j, j < n → y j = y' j) : bl n A x y = bl n B x' y' :=
  sm_congr fun j hj => by rw [hy j hj, sm_congr fun i hi => by rw [hx i hi, hA i j hi hj]]
theorem bl_left {n r : Nat} {A T : Mx K} {c x y : Nat → K} (h : ∀ j, j < n → x j = sm r fun k => c k * T k j) : bl n A x y = sm r fun k => c k * bl n A (T k) y := by
  have e1 : ∀ j, j < n → (sm n fun i => x i * A i j) * y j = sm r fun k => c k * ((sm n fun i => T k i * A i j) * y j) := fun j hj => by
    rw [sm_congr (f := fun i => x i * A i j) (g := fun i => sm r fun k => c k * (T k i * A i j)) fun i hi => by
      rw [h i hi, ← sm_mul']; exact sm_congr fun k _ => mul_assoc _ _ _]
    rw [sm_comm, ← sm_mul']
    exact sm_congr fun k _ => by rw [sm_mul, mul_assoc]
  unfold bl
  rw [sm_congr e1, sm_comm]
  exact sm_congr fun k _ => sm_mul _ _ _
theorem bl_right {n r : Nat} {A T : Mx K} {c x y : Nat → K} (h : ∀ j, j < n → y j = sm r fun k => c k * T k j) : bl n A x y = sm r fun k => c k * bl n A x (T k) := by
  have e1 : ∀ j, j < n → (sm n fun i => x i * A i j) * y j = sm r fun k => c k * ((sm n fun i => x i * A i j) * T k j) := fun j hj => by
    rw [h j hj, ← sm_mul]; exact sm_congr fun k _ => mul_left_comm _ _ _
  unfold bl
  rw [sm_congr e1, sm_comm]
  exact sm_congr fun k _ => sm_mul _ _ _
theorem bl_comb_left {n : Nat} {A : Mx K} {u v y : Nat → K} (t : K) : bl n A (fun j => u j + t * v j) y = bl n A u y + t * bl n A v y := by
  unfold bl
  rw [← sm_mul, ← sm_add]
  refine sm_congr fun j _ => ?_
  rw [← mul_assoc, ← sm_mul, ← add_mul, ← sm_add]
  congr 1
  exact sm_congr fun i _ => by rw [add_mul, mul_assoc]
theorem bl_comb_right {n : Nat} {A : Mx K} {x u v : Nat → K} (t : K) : bl n A x (fun j => u j + t * v j) = bl n A x u + t * bl n A x v := by
  unfold bl
  rw [← sm_mul, ← sm_add]
  exact sm_congr fun j _ => by rw [mul_add, mul_left_comm]
theorem bl_symm {n : Nat} {A : Mx K} (h : ∀ i j, i < n → j < n → A i j = A j i) (x y : Nat → K) : bl n A x y = bl n A y x := by
  unfold bl
  rw [sm_congr (f := fun j => (sm n fun i => x i * A i j) * y j) (g := fun j => sm n fun i => x i * A i j * y j) fun j _ => (sm_mul' _ _ _).symm, sm_comm]
  refine sm_congr fun i hi => ?_
  rw [← sm_mul']
  exact sm_congr fun j hj => by rw [h i j hi hj, mul_comm (y j), mul_comm (x i), mul_assoc, mul_assoc, mul_comm (x i)]
theorem bl_unit {n i j : Nat} {A : Mx K} (hi : i < n) (hj : j < n) : bl n A (idm i) (idm j) = A i j := by
  unfold bl
  rw [sm_one j hj fun k _ hk => by unfold idm; rw [if_neg (Ne.symm hk), mul_zero], sm_one i hi fun k _ hk => by unfold idm; rw [if_neg (Ne.symm hk), zero_mul]]
  unfold idm
  rw [if_pos rfl, if_pos rfl, one_mul, mul_one]
theorem sp_all {n : Nat} (x : Nat → K) : Sp n n (idm : Mx K) x := ⟨x, fun j hj => by
  rw [sm_one j hj fun k _ hk => by unfold idm; rw [if_neg hk, mul_zero]]
  unfold idm; rw [if_pos rfl, mul_one]⟩
end

/-- Three lists of vectors, pairwise orthogonal: with positive, with negative values, and a part where the form is 0; together they give everything. -/
structure Sig (n p m w : Nat) (A P N W : Mx Rat) : Prop where
  pp : ∀ i, i < p → 0 < bl n A (P i) (P i)
  nn : ∀ i, i < m → bl n A (N i) (N i) < 0
  po : ∀ i j, i < p → j < p → i ≠ j → bl n A (P i) (P j) = 0
  no : ∀ i j, i < m → j < m → i ≠ j → bl n A (N i) (N j) = 0
  wo : ∀ i j, i < w → j < w → bl n A (W i) (W j) = 0
  pn : ∀ i j, i < p → j < m → bl n A (P i) (N j) = 0
  wp : ∀ i j, i < w → j < p → bl n A (W i) (P j) = 0
  wn : ∀ i j, i < w → j < m → bl n A (W i) (N j) = 0
  all : ∀ x, Sp (p + (m + w)) n (stack p P (stack m N W)) x

theorem sm_nonneg : ∀ {n : Nat} {f : Nat → Rat}, (∀ k, k < n → 0 ≤ f k) → 0 ≤ sm n f
  | 0, _, _ => Rat.le_refl
  | n + 1, f, h => by
    show 0 ≤ sm n f + f n
    have h1 := sm_nonneg (n := n) (f := f) fun k hk => h k (by omega)
    have h2 := h n (by omega)
    grind
theorem sm_pos {n : Nat} {f : Nat → Rat} (h : ∀ k, k < n → 0 ≤ f k) {t : Nat} (ht : t < n) (h0 : 0 < f t) : 0 < sm n f := by
  induction n with
  | zero => omega
  | succ n ih =>
    show 0 < sm n f + f n
    by_cases e : t = n
    · have h1 := sm_nonneg (n := n) (f := f) fun k hk => h k (by omega)
      subst e
      grind
    · have h1 := ih (fun k hk => h k (by omega)) (by omega)
      have h2 := h n (by omega)
      grind
theorem sq_nonneg (x : Rat) : 0 ≤ x * x := by
  by_cases h : 0 ≤ x
  · exact Rat.mul_nonneg h h
  · have h1 : 0 ≤ -x := by grind
    have := Rat.mul_nonneg h1 h1
    grind
theorem sq_pos {x : Rat} (h : x ≠ 0) : 0 < x * x := by
  have h1 := sq_nonneg x
  have h2 : x * x ≠ 0 := mul_ne h h
  grind

theorem sum_three {n p m w : Nat} {P N W : Mx Rat} {x : Nat → Rat} (h : Sp (p + (m + w)) n (stack p P (stack m N W)) x) :
    ∃ a b c : Nat → Rat, ∀ j, j < n → x j = (sm p fun i => a i * P i j) + ((sm m fun i => b i * N i j) + sm w fun i => c i * W i j) := by
  obtain ⟨c, h⟩ := h
  refine ⟨c, fun i => c (p + i), fun i => c (p + (m + i)), fun j hj => ?_⟩
  rw [h j hj, sm_app, sm_app]
  congr 1
  · exact sm_congr fun k hk => by rw [stack_lt hk]
  · congr 1
    · exact sm_congr fun k hk => by rw [stack_add, stack_lt hk]
    · exact sm_congr fun k hk => by rw [stack_add, stack_add]

theorem bl_three {n p m w : Nat} {A P N W : Mx Rat} {x a b c : Nat → Rat} (y : Nat → Rat) (h : ∀ j, j < n → x j = (sm p fun i => a i * P i j) + ((sm m fun i => b i * N i j) + sm w fun i => c i * W i j)) :
    bl n A x y = (sm p fun i => a i * bl n A (P i) y) + ((sm m fun i => b i * bl n A (N i) y) + sm w fun i => c i * bl n A (W i) y) := by
  have e : ∀ j, j < n → x j = (sm p fun i => a i * P i j) + (1 : Rat) * ((sm m fun i => b i * N i j) + (1 : Rat) * sm w fun i => c i * W i j) := fun j hj => by
    rw [h j hj, Rat.one_mul, Rat.one_mul]
  rw [bl_congr (B := A) (x' := fun j => (sm p fun i => a i * P i j) + (1 : Rat) * ((sm m fun i => b i * N i j) + (1 : Rat) * sm w fun i => c i * W i j)) (y' := y) (fun _ _ _ _ => rfl) e (fun _ _ => rfl),
    bl_comb_left, bl_comb_left, Rat.one_mul, Rat.one_mul, bl_left (T := P) (r := p) (c := a) (fun _ _ => rfl), bl_left (T := N) (r := m) (c := b) (fun _ _ => rfl), bl_left (T := W) (r := w) (c := c) (fun _ _ => rfl)]

theorem Sig.le {n p m w p' m' w' : Nat} {A P N W P' N' W' : Mx Rat} (hA : ∀ i j, i < n → j < n → A i j = A j i) (h : Sig n p m w A P N W) (h' : Sig n p' m' w' A P' N' W') : p ≤ p' := by
  refine Classical.byContradiction fun hlt => ?_
  obtain ⟨x, ⟨t, ht, hx⟩, hz⟩ := kernel_ne p' p (fun i j => bl n A (P' i) (P j)) (by omega)
  obtain ⟨u, hu⟩ : ∃ u : Nat → Rat, u = fun j => sm p fun i => x i * P i j := ⟨_, rfl⟩
  have hpu : ∀ i, i < p → bl n A (P i) u = x i * bl n A (P i) (P i) := fun i hi => by
    rw [bl_right (T := P) (r := p) (c := x) (fun j _ => by rw [hu])]
    exact sm_one i hi fun k hk hne => by rw [h.po i k hi hk (Ne.symm hne), mul_zero]
  have hpos : 0 < bl n A u u := by
    rw [bl_left (T := P) (r := p) (c := x) (fun j _ => by rw [hu])]
    refine sm_pos (fun k hk => ?_) ht ?_
    · rw [hpu k hk, ← Rat.mul_assoc]
      exact Rat.mul_nonneg (sq_nonneg _) (Rat.le_of_lt (h.pp k hk))
    · rw [hpu t ht, ← Rat.mul_assoc]
      exact Rat.mul_pos (sq_pos hx) (h.pp t ht)
  obtain ⟨a, b, c, he⟩ := sum_three (h'.all u)
  have hP : ∀ i, i < p' → bl n A (P' i) u = 0 := fun i hi => by
    rw [bl_right (T := P) (r := p) (c := x) (fun j _ => by rw [hu])]
    rw [sm_congr fun k _ => mul_comm _ _]
    exact hz i hi
  have hN : ∀ i, i < m' → bl n A (N' i) u = b i * bl n A (N' i) (N' i) := fun i hi => by
    rw [bl_symm hA, bl_three _ he, sm_zero fun k hk => by rw [h'.pn k i hk hi, mul_zero], zero_add,
      sm_zero (n := w') fun k hk => by rw [h'.wn k i hk hi, mul_zero], add_zero]
    exact sm_one i hi fun k hk hne => by rw [h'.no k i hk hi hne, mul_zero]
  have hW : ∀ i, i < w' → bl n A (W' i) u = 0 := fun i hi => by
    rw [bl_symm hA, bl_three _ he, sm_zero fun k hk => by rw [bl_symm hA, h'.wp i k hi hk, mul_zero], zero_add,
      sm_zero (n := m') fun k hk => by rw [bl_symm hA, h'.wn i k hi hk, mul_zero], zero_add]
    exact sm_zero fun k hk => by rw [h'.wo k i hk hi, mul_zero]
  have hneg : bl n A u u ≤ 0 := by
    rw [bl_three u he, sm_zero fun k hk => by rw [hP k hk, mul_zero], zero_add, sm_zero (n := w') fun k hk => by rw [hW k hk, mul_zero], add_zero]
    have : 0 ≤ -(sm m' fun i => b i * bl n A (N' i) u) := by
      rw [← sm_neg]
      refine sm_nonneg fun k hk => ?_
      rw [hN k hk, ← Rat.mul_assoc, ← mul_neg]
      have := h'.nn k hk
      exact Rat.mul_nonneg (sq_nonneg _) (by grind)
    grind
  grind

theorem bl_negA {n : Nat} {A : Mx Rat} {x y : Nat → Rat} : bl n (fun i j => -A i j) x y = -bl n A x y := by
  unfold bl
  rw [← sm_neg]
  refine sm_congr fun j _ => ?_
  rw [← neg_mul, ← sm_neg]
  congr 1
  exact sm_congr fun i _ => mul_neg _ _

theorem Sig.neg {n p m w : Nat} {A P N W : Mx Rat} (hA : ∀ i j, i < n → j < n → A i j = A j i) (h : Sig n p m w A P N W) : Sig n m p w (fun i j => -A i j) N P W where
  pp := fun i hi => by rw [bl_negA]; have := h.nn i hi; grind
  nn := fun i hi => by rw [bl_negA]; have := h.pp i hi; grind
  po := fun i j hi hj hne => by rw [bl_negA, h.no i j hi hj hne, neg_zero]
  no := fun i j hi hj hne => by rw [bl_negA, h.po i j hi hj hne, neg_zero]
  wo := fun i j hi hj => by rw [bl_negA, h.wo i j hi hj, neg_zero]
  pn := fun i j hi hj => by rw [bl_negA, bl_symm hA, h.pn j i hj hi, neg_zero]
  wp := fun i j hi hj => by rw [bl_negA, h.wn i j hi hj, neg_zero]
  wn := fun i j hi hj => by rw [bl_negA, h.wp i j hi hj, neg_zero]
  all := fun x => by
    obtain ⟨a, b, c, h⟩ := sum_three (h.all x)
    refine ⟨fun i => if i < m then b i else if i < m + p then a (i - m) else c (i - m - p), fun j hj => ?_⟩
    rw [h j hj, sm_app, sm_app, add_left_comm]
    congr 1
    · exact sm_congr fun k hk => by rw [stack_lt hk]; simp only [if_pos hk]
    · congr 1
      · exact sm_congr fun k hk => by
          rw [stack_add, stack_lt hk]; simp only [if_neg (show ¬ m + k < m by omega), if_pos (show m + k < m + p by omega), show m + k - m = k by omega]
      · exact sm_congr fun k hk => by
          rw [stack_add, stack_add]; simp only [if_neg (show ¬ m + (p + k) < m by omega), if_neg (show ¬ m + (p + k) < m + p by omega), show m + (p + k) - m - p = k by omega]

/-- Sylvester's law of inertia. -/
theorem Sig.unique {n p m w p' m' w' : Nat} {A P N W P' N' W' : Mx Rat} (hA : ∀ i j, i < n → j < n → A i j = A j i) (h : Sig n p m w A P N W) (h' : Sig n p' m' w' A P' N' W') : p = p' ∧ m = m' := by
  have hB : ∀ i j, i < n → j < n → (fun i j => -A i j) i j = (fun i j => -A i j) j i := fun i j hi hj => by show -A i j = -A j i; rw [hA i j hi hj]
  exact ⟨Nat.le_antisymm (h.le hA h') (h'.le hA h), Nat.le_antisymm ((h.neg hA).le hB (h'.neg hA)) ((h'.neg hA).le hB (h.neg hA))⟩

theorem Sig.congr {n p m w : Nat} {A B P N W : Mx Rat} (h : Sig n p m w A P N W) (e : ∀ i j, i < n → j < n → A i j = B i j) : Sig n p m w B P N W := by
  have e1 : ∀ x y, bl n B x y = bl n A x y := fun x y => (bl_congr e (fun _ _ => rfl) (fun _ _ => rfl)).symm
  exact ⟨fun i hi => by rw [e1]; exact h.pp i hi, fun i hi => by rw [e1]; exact h.nn i hi, fun i j hi hj hn => by rw [e1]; exact h.po i j hi hj hn, fun i j hi hj hn => by rw [e1]; exact h.no i j hi hj hn,
    fun i j hi hj => by rw [e1]; exact h.wo i j hi hj, fun i j hi hj => by rw [e1]; exact h.pn i j hi hj, fun i j hi hj => by rw [e1]; exact h.wp i j hi hj, fun i j hi hj => by rw [e1]; exact h.wn i j hi hj, h.all⟩

end Go.La

/- Vectors split off one after the other from a symmetric form. No condition. -/
namespace Go.La

/-- Some vectors are split off; L gives what is orthogonal to them. -/
structure Prt (n p m r : Nat) (A P N L : Mx Rat) : Prop where
  pp : ∀ i, i < p → 0 < bl n A (P i) (P i)
  nn : ∀ i, i < m → bl n A (N i) (N i) < 0
  po : ∀ i j, i < p → j < p → i ≠ j → bl n A (P i) (P j) = 0
  no : ∀ i j, i < m → j < m → i ≠ j → bl n A (N i) (N j) = 0
  pn : ∀ i j, i < p → j < m → bl n A (P i) (N j) = 0
  wp : ∀ i j, i < r → j < p → bl n A (L i) (P j) = 0
  wn : ∀ i j, i < r → j < m → bl n A (L i) (N j) = 0
  all : ∀ x, Sp (p + (m + r)) n (stack p P (stack m N L)) x

theorem sp_p {n p m r i : Nat} {P N L : Mx Rat} (hi : i < p) : Sp (p + (m + r)) n (stack p P (stack m N L)) (P i) := by
  have := Sp.row (n := n) (A := stack p P (stack m N L)) (r := p + (m + r)) (i := i) (by omega)
  rwa [stack_lt hi] at this
theorem sp_n {n p m r i : Nat} {P N L : Mx Rat} (hi : i < m) : Sp (p + (m + r)) n (stack p P (stack m N L)) (N i) := by
  have := Sp.row (n := n) (A := stack p P (stack m N L)) (r := p + (m + r)) (i := p + i) (by omega)
  rwa [stack_add, stack_lt hi] at this
theorem sp_w {n p m r i : Nat} {P N L : Mx Rat} (hi : i < r) : Sp (p + (m + r)) n (stack p P (stack m N L)) (L i) := by
  have := Sp.row (n := n) (A := stack p P (stack m N L)) (r := p + (m + r)) (i := p + (m + i)) (by omega)
  rwa [stack_add, stack_add] at this
theorem three_cases {p m r : Nat} {P N L : Mx Rat} {Q : (Nat → Rat) → Prop} (h1 : ∀ i, i < p → Q (P i)) (h2 : ∀ i, i < m → Q (N i)) (h3 : ∀ i, i < r → Q (L i)) : ∀ i, i < p + (m + r) → Q (stack p P (stack m N L) i) := by
  intro i hi
  by_cases e1 : i < p
  · rw [stack_lt e1]; exact h1 i e1
  · obtain ⟨k, rfl⟩ : ∃ k, i = p + k := ⟨i - p, by omega⟩
    rw [stack_add]
    by_cases e2 : k < m
    · rw [stack_lt e2]; exact h2 k e2
    · obtain ⟨l, rfl⟩ : ∃ l, k = m + l := ⟨k - m, by omega⟩
      rw [stack_add]; exact h3 l (by omega)

theorem Prt.start {n : Nat} {A P N : Mx Rat} : Prt n 0 0 n A P N idm where
  pp := fun i h => absurd h (Nat.not_lt_zero i)
  nn := fun i h => absurd h (Nat.not_lt_zero i)
  po := fun i _ h => absurd h (Nat.not_lt_zero i)
  no := fun i _ h => absurd h (Nat.not_lt_zero i)
  pn := fun i _ h => absurd h (Nat.not_lt_zero i)
  wp := fun _ j _ h => absurd h (Nat.not_lt_zero j)
  wn := fun _ j _ h => absurd h (Nat.not_lt_zero j)
  all := fun x => (sp_all x).trans fun _ hi => sp_w hi

theorem Prt.neg {n p m r : Nat} {A P N L : Mx Rat} (hA : ∀ i j, i < n → j < n → A i j = A j i) (h : Prt n p m r A P N L) : Prt n m p r (fun i j => -A i j) N P L where
  pp := fun i hi => by rw [bl_negA]; have := h.nn i hi; grind
  nn := fun i hi => by rw [bl_negA]; have := h.pp i hi; grind
  po := fun i j hi hj hne => by rw [bl_negA, h.no i j hi hj hne, neg_zero]
  no := fun i j hi hj hne => by rw [bl_negA, h.po i j hi hj hne, neg_zero]
  pn := fun i j hi hj => by rw [bl_negA, bl_symm hA, h.pn j i hj hi, neg_zero]
  wp := fun i j hi hj => by rw [bl_negA, h.wn i j hi hj, neg_zero]
  wn := fun i j hi hj => by rw [bl_negA, h.wp i j hi hj, neg_zero]
  all := fun x => (h.all x).trans (three_cases (fun _ hi => sp_n hi) (fun _ hi => sp_p hi) (fun _ hi => sp_w hi))
theorem Prt.congr {n p m r : Nat} {A B P N L : Mx Rat} (h : Prt n p m r A P N L) (e : ∀ i j, i < n → j < n → A i j = B i j) : Prt n p m r B P N L := by
  have e1 : ∀ x y, bl n B x y = bl n A x y := fun x y => (bl_congr e (fun _ _ => rfl) (fun _ _ => rfl)).symm
  exact ⟨fun i hi => by rw [e1]; exact h.pp i hi, fun i hi => by rw [e1]; exact h.nn i hi, fun i j hi hj hn => by rw [e1]; exact h.po i j hi hj hn, fun i j hi hj hn => by rw [e1]; exact h.no i j hi hj hn,
    fun i j hi hj => by rw [e1]; exact h.pn i j hi hj, fun i j hi hj => by rw [e1]; exact h.wp i j hi hj, fun i j hi hj => by rw [e1]; exact h.wn i j hi hj, h.all⟩

theorem bl_sp_zero {n r : Nat} {A X : Mx Rat} {x y : Nat → Rat} (h : ∀ k, k < r → bl n A (X k) y = 0) (hx : Sp r n X x) : bl n A x y = 0 := by
  obtain ⟨c, hc⟩ := hx
  rw [bl_left hc]
  exact sm_zero fun k hk => by rw [h k hk, mul_zero]

/-- A vector of what is left, with a positive value, is split off. -/
theorem Prt.pos {n p m r r' : Nat} {A P N L L' X : Mx Rat} {v : Nat → Rat} (hA : ∀ i j, i < n → j < n → A i j = A j i) (h : Prt n p m r A P N L) (hv : Sp r n L v) (hq : 0 < bl n A v v)
    (hn : ∀ i j, i < r → j < n → X i j = L i j + -(bl n A (L i) v / bl n A v v) * v j) (e : Same r' r n L' X) : Prt n (p + 1) m r' A (setr P p v) N L' := by
  have hq0 : bl n A v v ≠ 0 := fun e => by rw [e] at hq; exact absurd hq (by decide)
  have hvp : ∀ j, j < p → bl n A v (P j) = 0 := fun j hj => bl_sp_zero (fun k hk => h.wp k j hk hj) hv
  have hvn : ∀ j, j < m → bl n A v (N j) = 0 := fun j hj => bl_sp_zero (fun k hk => h.wn k j hk hj) hv
  have hX : ∀ i y, i < r → bl n A (X i) y = bl n A (L i) y + -(bl n A (L i) v / bl n A v v) * bl n A v y := fun i y hi => by
    rw [bl_congr (B := A) (x' := fun j => L i j + -(bl n A (L i) v / bl n A v v) * v j) (y' := y) (fun _ _ _ _ => rfl) (fun j hj => hn i j hi hj) (fun _ _ => rfl), bl_comb_left]
  have hXv : ∀ i, i < r → bl n A (X i) v = 0 := fun i hi => by
    rw [hX i v hi, Rat.div_def, neg_mul, Rat.mul_assoc, Rat.inv_mul_cancel _ hq0, Rat.mul_one, add_neg_self]
  have hlt : ∀ {i : Nat}, i < p + 1 → i ≠ p → i < p := fun h1 h2 => by omega
  refine ⟨fun i hi => ?_, h.nn, fun i j hi hj hne => ?_, h.no, fun i j hi hj => ?_, fun i j hi hj => ?_, fun i j hi hj => ?_, fun x => ?_⟩
  · by_cases e1 : i = p
    · subst e1; rw [setr_at]; exact hq
    · rw [setr_ne _ _ e1]; exact h.pp i (hlt hi e1)
  · by_cases e1 : i = p
    · subst e1
      rw [setr_at, setr_ne _ _ (Ne.symm hne)]
      exact hvp j (hlt hj (Ne.symm hne))
    · rw [setr_ne _ _ e1]
      by_cases e2 : j = p
      · subst e2
        rw [setr_at, bl_symm hA]; exact hvp i (hlt hi e1)
      · rw [setr_ne _ _ e2]; exact h.po i j (hlt hi e1) (hlt hj e2) hne
  · by_cases e1 : i = p
    · subst e1; rw [setr_at]; exact hvn j hj
    · rw [setr_ne _ _ e1]; exact h.pn i j (hlt hi e1) hj
  · refine bl_sp_zero (fun k hk => ?_) (e.lt i hi)
    by_cases e1 : j = p
    · subst e1; rw [setr_at]; exact hXv k hk
    · rw [setr_ne _ _ e1, hX k _ hk, h.wp k j hk (hlt hj e1), hvp j (hlt hj e1), mul_zero, add_zero]
  · refine bl_sp_zero (fun k hk => ?_) (e.lt i hi)
    rw [hX k _ hk, h.wn k j hk hj, hvn j hj, mul_zero, add_zero]
  · have hv1 : Sp (p + 1 + (m + r')) n (stack (p + 1) (setr P p v) (stack m N L')) v := by
      have := sp_p (n := n) (p := p + 1) (m := m) (r := r') (P := setr P p v) (N := N) (L := L') (i := p) (by omega)
      rwa [setr_at] at this
    refine (h.all x).trans (three_cases (fun i hi => ?_) (fun i hi => sp_n hi) (fun i hi => ?_))
    · have := sp_p (n := n) (p := p + 1) (m := m) (r := r') (P := setr P p v) (N := N) (L := L') (i := i) (by omega)
      rwa [setr_ne _ _ (by omega)] at this
    · have h1 : Sp (p + 1 + (m + r')) n (stack (p + 1) (setr P p v) (stack m N L')) (X i) := (e.rt i hi).trans fun k hk => sp_w hk
      refine (h1.comb (bl n A (L i) v / bl n A v v) hv1).congr (fun _ _ _ _ => rfl) fun j hj => ?_
      show X i j + _ = _
      rw [hn i j hi hj, neg_mul, add_assoc, neg_add_self, add_zero]

end Go.La

/- A symmetric matrix made diagonal by congruences; numbers in place of vectors. No condition. -/
namespace Go.La

def cnt : Nat → (Nat → Bool) → Nat
  | 0, _ => 0
  | n + 1, d => cnt n d + if d n then 1 else 0
def setb (d : Nat → Bool) (i : Nat) : Nat → Bool := fun r => if r = i then true else d r
theorem setb_at {d : Nat → Bool} {i : Nat} : setb d i i = true := if_pos rfl
theorem setb_ne {d : Nat → Bool} {i r : Nat} (h : r ≠ i) : setb d i r = d r := if_neg h
theorem cnt_congr {d e : Nat → Bool} : ∀ {n}, (∀ r, r < n → d r = e r) → cnt n d = cnt n e
  | 0, _ => rfl
  | n + 1, h => by
    show cnt n d + (if d n then 1 else 0) = cnt n e + (if e n then 1 else 0)
    rw [cnt_congr (n := n) fun r hr => h r (by omega), h n (by omega)]
theorem cnt_set {d : Nat → Bool} {i : Nat} (h0 : d i = false) : ∀ {n}, i < n → cnt n (setb d i) = cnt n d + 1
  | 0, h => absurd h (Nat.not_lt_zero i)
  | n + 1, h => by
    show cnt n (setb d i) + (if setb d i n then 1 else 0) = cnt n d + (if d n then 1 else 0) + 1
    by_cases e : i = n
    · subst e
      rw [h0, setb_at, cnt_congr (d := setb d i) (e := d) fun r hr => setb_ne (by omega)]
      simp
    · rw [cnt_set h0 (n := n) (by omega), setb_ne (Ne.symm e)]
      omega
theorem cnt_zero : ∀ n, cnt n (fun _ => false) = 0
  | 0 => rfl
  | n + 1 => by
    show cnt n (fun _ => false) + (if false then 1 else 0) = 0
    rw [cnt_zero n]; rfl

/-- The rows of L that are done are among P and N. -/
structure Pdn (n p m : Nat) (A : Mx Rat) (dn : Nat → Bool) (L P N : Mx Rat) : Prop where
  pp : ∀ i, i < p → 0 < bl n A (P i) (P i)
  nn : ∀ i, i < m → bl n A (N i) (N i) < 0
  po : ∀ i j, i < p → j < p → i ≠ j → bl n A (P i) (P j) = 0
  no : ∀ i j, i < m → j < m → i ≠ j → bl n A (N i) (N j) = 0
  pn : ∀ i j, i < p → j < m → bl n A (P i) (N j) = 0
  don : ∀ r, r < n → dn r = true → (∃ i, i < p ∧ P i = L r) ∨ ∃ i, i < m ∧ N i = L r
  wp : ∀ r j, r < n → dn r = false → j < p → bl n A (L r) (P j) = 0
  wn : ∀ r j, r < n → dn r = false → j < m → bl n A (L r) (N j) = 0
  all : ∀ x, Sp n n L x
  num : p + m = cnt n dn

theorem Pdn.start {n : Nat} {A P N : Mx Rat} : Pdn n 0 0 A (fun _ => false) idm P N where
  pp := fun i h => absurd h (Nat.not_lt_zero i)
  nn := fun i h => absurd h (Nat.not_lt_zero i)
  po := fun i _ h => absurd h (Nat.not_lt_zero i)
  no := fun i _ h => absurd h (Nat.not_lt_zero i)
  pn := fun i _ h => absurd h (Nat.not_lt_zero i)
  don := fun _ _ h => by cases h
  wp := fun _ j _ _ h => absurd h (Nat.not_lt_zero j)
  wn := fun _ j _ _ h => absurd h (Nat.not_lt_zero j)
  all := sp_all
  num := (cnt_zero n).symm

theorem Pdn.neg {n p m : Nat} {A L P N : Mx Rat} {dn : Nat → Bool} (hA : ∀ i j, i < n → j < n → A i j = A j i) (h : Pdn n p m A dn L P N) : Pdn n m p (fun i j => -A i j) dn L N P where
  pp := fun i hi => by rw [bl_negA]; have := h.nn i hi; grind
  nn := fun i hi => by rw [bl_negA]; have := h.pp i hi; grind
  po := fun i j hi hj hne => by rw [bl_negA, h.no i j hi hj hne, neg_zero]
  no := fun i j hi hj hne => by rw [bl_negA, h.po i j hi hj hne, neg_zero]
  pn := fun i j hi hj => by rw [bl_negA, bl_symm hA, h.pn j i hj hi, neg_zero]
  don := fun r hr hd => (h.don r hr hd).symm
  wp := fun r j hr hd hj => by rw [bl_negA, h.wn r j hr hd hj, neg_zero]
  wn := fun r j hr hd hj => by rw [bl_negA, h.wp r j hr hd hj, neg_zero]
  all := h.all
  num := by rw [Nat.add_comm]; exact h.num
theorem Pdn.congr {n p m : Nat} {A B L P N : Mx Rat} {dn : Nat → Bool} (h : Pdn n p m A dn L P N) (e : ∀ i j, i < n → j < n → A i j = B i j) : Pdn n p m B dn L P N := by
  have e1 : ∀ x y, bl n B x y = bl n A x y := fun x y => (bl_congr e (fun _ _ => rfl) (fun _ _ => rfl)).symm
  exact ⟨fun i hi => by rw [e1]; exact h.pp i hi, fun i hi => by rw [e1]; exact h.nn i hi, fun i j hi hj hn => by rw [e1]; exact h.po i j hi hj hn, fun i j hi hj hn => by rw [e1]; exact h.no i j hi hj hn,
    fun i j hi hj => by rw [e1]; exact h.pn i j hi hj, h.don, fun i j hi hd hj => by rw [e1]; exact h.wp i j hi hd hj, fun i j hi hd hj => by rw [e1]; exact h.wn i j hi hd hj, h.all, h.num⟩

/-- The rows, so far as k, made orthogonal to row i. -/
def lk (dn : Nat → Bool) (L : Mx Rat) (f : Nat → Rat) (i k : Nat) : Mx Rat := fun r => if r < k ∧ dn r = false then fun j => L r j + f r * L i j else L r
theorem lk_hit {dn : Nat → Bool} {L : Mx Rat} {f : Nat → Rat} {i k r : Nat} (h : r < k) (h0 : dn r = false) : lk dn L f i k r = fun j => L r j + f r * L i j := if_pos ⟨h, h0⟩
theorem lk_done {dn : Nat → Bool} {L : Mx Rat} {f : Nat → Rat} {i k r : Nat} (h0 : dn r = true) : lk dn L f i k r = L r := if_neg fun h => by rw [h0] at h; cases h.2
theorem Pdn.pos {n p m i : Nat} {A L P N : Mx Rat} {dn : Nat → Bool} {f : Nat → Rat} (hA : ∀ i j, i < n → j < n → A i j = A j i) (h : Pdn n p m A dn L P N) (hi : i < n) (h0 : dn i = false) (hq : 0 < bl n A (L i) (L i))
    (hf : ∀ r, r < n → f r = -(bl n A (L r) (L i) / bl n A (L i) (L i))) : Pdn n (p + 1) m A (setb dn i) (lk (setb dn i) L f i n) (setr P p (L i)) N := by
  have hq0 : bl n A (L i) (L i) ≠ 0 := fun e => by rw [e] at hq; exact absurd hq (by decide)
  have hlt : ∀ {j : Nat}, j < p + 1 → j ≠ p → j < p := fun h1 h2 => by omega
  have hd : ∀ {r : Nat}, setb dn i r = false → r ≠ i ∧ dn r = false := fun {r} h1 => by
    by_cases e : r = i
    · subst e; rw [setb_at] at h1; cases h1
    · rw [setb_ne e] at h1; exact ⟨e, h1⟩
  have hL : ∀ r, r < n → dn r = false → r ≠ i → lk (setb dn i) L f i n r = fun j => L r j + f r * L i j := fun r hr h1 hne => lk_hit hr (by rw [setb_ne hne, h1])
  have hLi : lk (setb dn i) L f i n i = L i := lk_done setb_at
  refine ⟨fun j hj => ?_, h.nn, fun j k hj hk hne => ?_, h.no, fun j k hj hk => ?_, fun r hr h1 => ?_, fun r j hr h1 hj => ?_, fun r j hr h1 hj => ?_, fun x => ?_, ?_⟩
  · by_cases e1 : j = p
    · subst e1; rw [setr_at]; exact hq
    · rw [setr_ne _ _ e1]; exact h.pp j (hlt hj e1)
  · by_cases e1 : j = p
    · subst e1
      rw [setr_at, setr_ne _ _ (Ne.symm hne)]
      exact h.wp i k hi h0 (hlt hk (Ne.symm hne))
    · rw [setr_ne _ _ e1]
      by_cases e2 : k = p
      · subst e2
        rw [setr_at, bl_symm hA]; exact h.wp i j hi h0 (hlt hj e1)
      · rw [setr_ne _ _ e2]; exact h.po j k (hlt hj e1) (hlt hk e2) hne
  · by_cases e1 : j = p
    · subst e1; rw [setr_at]; exact h.wn i k hi h0 hk
    · rw [setr_ne _ _ e1]; exact h.pn j k (hlt hj e1) hk
  · rw [lk_done h1]
    by_cases e : r = i
    · exact .inl ⟨p, by omega, by rw [setr_at, e]⟩
    · rw [setb_ne e] at h1
      rcases h.don r hr h1 with ⟨j, hj, h2⟩ | h2
      · exact .inl ⟨j, by omega, by rw [setr_ne _ _ (by omega)]; exact h2⟩
      · exact .inr h2
  · obtain ⟨hne, h2⟩ := hd h1
    rw [hL r hr h2 hne, bl_comb_left]
    by_cases e1 : j = p
    · subst e1
      rw [setr_at, hf r hr, Rat.div_def, neg_mul, Rat.mul_assoc, Rat.inv_mul_cancel _ hq0, Rat.mul_one, add_neg_self]
    · rw [setr_ne _ _ e1, h.wp r j hr h2 (hlt hj e1), h.wp i j hi h0 (hlt hj e1), mul_zero, add_zero]
  · obtain ⟨hne, h2⟩ := hd h1
    rw [hL r hr h2 hne, bl_comb_left, h.wn r j hr h2 hj, h.wn i j hi h0 hj, mul_zero, add_zero]
  · refine (h.all x).trans fun r hr => ?_
    have h1 := Sp.row (n := n) (A := lk (setb dn i) L f i n) hr
    by_cases e : setb dn i r = true
    · rw [lk_done e] at h1; exact h1
    · have e2 := hd (Bool.eq_false_iff.2 e)
      rw [hL r hr e2.2 e2.1] at h1
      have h3 := Sp.row (n := n) (A := lk (setb dn i) L f i n) hi
      rw [hLi] at h3
      exact (h1.comb (-(f r)) h3).congr (fun _ _ _ _ => rfl) fun j _ => by
        show L r j + f r * L i j + -(f r) * L i j = L r j
        rw [neg_mul, add_assoc, add_neg_self, add_zero]
  · rw [cnt_set h0 hi, ← h.num]; omega

/-- The numbers B(L r, L c). -/
def Gram (n : Nat) (A L G : Mx Rat) : Prop := ∀ r c, r < n → c < n → G r c = bl n A (L r) (L c)
theorem Gram.start {n : Nat} {A : Mx Rat} : Gram n A idm A := fun _ _ hr hc => (bl_unit hr hc).symm

/-- A multiple of row j is added to row i, then a multiple of column j to column i. -/
def rop (G : Mx Rat) (i j : Nat) (t : Rat) : Mx Rat := fun r c => if r = i then G i c + t * G j c else G r c
def cop (G : Mx Rat) (i j : Nat) (t : Rat) : Mx Rat := fun r c => if c = i then G r i + t * G r j else G r c
theorem Gram.op {n i j : Nat} {A L G : Mx Rat} {t : Rat} (h : Gram n A L G) (hi : i < n) (hj : j < n) (hne : j ≠ i) : Gram n A (setr L i (fun c => L i c + t * L j c)) (cop (rop G i j t) i j t) := by
  have h1 : ∀ r c, r < n → c < n → rop G i j t r c = bl n A (setr L i (fun c => L i c + t * L j c) r) (L c) := fun r c hr hc => by
    unfold rop
    by_cases e : r = i
    · subst e; rw [if_pos rfl, setr_at, bl_comb_left, h r c hr hc, h j c hj hc]
    · rw [if_neg e, setr_ne _ _ e, h r c hr hc]
  intro r c hr hc
  unfold cop
  by_cases e : c = i
  · subst e; rw [if_pos rfl, setr_at, bl_comb_right, h1 r c hr hc, h1 r j hr hj]
  · rw [if_neg e, setr_ne _ _ e, h1 r c hr hc]
theorem Gram.congr {n : Nat} {A L L' G : Mx Rat} (h : Gram n A L G) (e : ∀ r, r < n → ∀ j, j < n → L r j = L' r j) : Gram n A L' G := fun r c hr hc => by
  rw [h r c hr hc]; exact bl_congr (fun _ _ _ _ => rfl) (e r hr) (e c hc)

end Go.La

/- Signatures: sizes, and one step of the elimination. No condition. -/
namespace Go.Proofs.Ytlnmhjkagnfnaaa
open Go.Hp

/-- What is left after k steps has so many words. -/
def sgb (b : Nat) : Nat → Nat
  | 0 => b
  | k + 1 => 16 * sgb b k + 13
/-- A diagonal element is there, or all that is left is 0. -/
def Turned (n : Nat) (dn : Nat → Bool) (A : Nat → Nat → Rat) (t : Int) : Prop :=
  (t = -1 ∧ ∀ r c, r < n → c < n → dn r = false → dn c = false → A r c = 0) ∨ ∃ i : Nat, t = (i : Int) ∧ i < n ∧ dn i = false ∧ A i i ≠ 0

end Go.Proofs.Ytlnmhjkagnfnaaa

/- Signatures by splitting off: sizes. No condition. -/
namespace Go.Proofs.Ytlnmhjkagnfnaaa
open Go.Hp

/-- Words of the numbers B(L i, L k), and of the elements of L, after k steps. -/
def sgg : Nat → Nat
  | 0 => 1
  | k + 1 => 16 * sgg k + 9
def srr : Nat → Nat
  | 0 => 1
  | k + 1 => 2 * srr k + 4 * sgg k + 3
/-- A vector of the list, or the sum of two. -/
def IsV (r n : Nat) (L : Nat → Nat → Rat) (v : Nat → Rat) : Prop := ∃ a, a < r ∧ ((∀ j, j < n → v j = L a j) ∨ ∃ c, c < r ∧ ∀ j, j < n → v j = L a j + 1 * L c j)
theorem IsV.sp {r n : Nat} {L : Nat → Nat → Rat} {v : Nat → Rat} (h : IsV r n L v) : La.Sp r n L v := by
  obtain ⟨a, ha, h | ⟨c, hc, h⟩⟩ := h
  · exact (La.Sp.row ha).congr (fun _ _ _ _ => rfl) fun j hj => (h j hj).symm
  · exact ((La.Sp.row ha).comb 1 (La.Sp.row hc)).congr (fun _ _ _ _ => rfl) fun j hj => (h j hj).symm
theorem IsV.bl {r n gg : Nat} {A L : Nat → Nat → Rat} {v x : Nat → Rat} (h : IsV r n L v) (hs : ∀ i, i < r → Szq (La.bl n A x (L i)) gg) : Szq (La.bl n A x v) (2 * gg + 1) := by
  obtain ⟨a, ha, h | ⟨c, hc, h⟩⟩ := h
  · rw [La.bl_congr (B := A) (x' := x) (y' := L a) (fun _ _ _ _ => rfl) (fun _ _ => rfl) h]; exact (hs a ha).mono (by omega)
  · rw [La.bl_congr (B := A) (x' := x) (y' := fun j => L a j + 1 * L c j) (fun _ _ _ _ => rfl) (fun _ _ => rfl) h, La.bl_comb_right, Rat.one_mul]
    exact ((hs a ha).add (hs c hc)).mono (by omega)
end Go.Proofs.Ytlnmhjkagnfnaaa
