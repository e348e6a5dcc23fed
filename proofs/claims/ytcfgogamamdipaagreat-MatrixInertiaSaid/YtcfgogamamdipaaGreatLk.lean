/- Vectors split off one after the other from a symmetric form. No condition. -/
import Derived.Test.YtcfgogamamdipaaGreatLj
namespace Go.La

/-- Some vectors are split off; L gives what is orthogonal to them. -/
structure Prt (n p m r : Nat) (A P N L : Mx Rat) : Prop where
  pp : ∀ i, i < p → 0 < bl n A (P i) (P i)
  nn : ∀ i, i < m → bl n A (N i) (N i) < 0
  po : ∀ i j, i < p → j < p → i ≠ j → bl n A (P i) (P j) = 0
  no : ∀ i j, i < m → j < m → i ≠ j → bl n A (N i) (N j) = 0
  pn : ∀ i j, i < p → j < m → bl n A (P i) (N j) = 0
  wp : ∀ i j, i < r → j < p → bl n A (L i) (P j) = 0
  wn : ∀ i j, i < r → j < m → bl n A (L i) (N j) = 0
  all : ∀ x, Sp (p + (m + r)) n (stack p P (stack m N L)) x

theorem Prt.sig {n p m r : Nat} {A P N L : Mx Rat} (h : Prt n p m r A P N L) (hz : ∀ i j, i < r → j < r → bl n A (L i) (L j) = 0) : Sig n p m r A P N L :=
  ⟨h.pp, h.nn, h.po, h.no, hz, h.pn, h.wp, h.wn, h.all⟩

theorem sp_p {n p m r i : Nat} {P N L : Mx Rat} (hi : i < p) : Sp (p + (m + r)) n (stack p P (stack m N L)) (P i) := by
  have := Sp.row (n := n) (A := stack p P (stack m N L)) (r := p + (m + r)) (i := i) (by omega)
  rwa [stack_lt hi] at this
theorem sp_n {n p m r i : Nat} {P N L : Mx Rat} (hi : i < m) : Sp (p + (m + r)) n (stack p P (stack m N L)) (N i) := by
  have := Sp.row (n := n) (A := stack p P (stack m N L)) (r := p + (m + r)) (i := p + i) (by omega)
  rwa [stack_add, stack_lt hi] at this
theorem sp_w {n p m r i : Nat} {P N L : Mx Rat} (hi : i < r) : Sp (p + (m + r)) n (stack p P (stack m N L)) (L i) := by
  have := Sp.row (n := n) (A := stack p P (stack m N L)) (r := p + (m + r)) (i := p + (m + i)) (by omega)
  rwa [stack_add, stack_add] at this
theorem three_cases {p m r : Nat} {P N L : Mx Rat} {Q : (Nat → Rat) → Prop} (h1 : ∀ i, i < p → Q (P i)) (h2 : ∀ i, i < m → Q (N i)) (h3 : ∀ i, i < r → Q (L i)) : ∀ i, i < p + (m + r) → Q (stack p P (stack m N L) i) := by
  intro i hi
  by_cases e1 : i < p
  · rw [stack_lt e1]; exact h1 i e1
  · obtain ⟨k, rfl⟩ : ∃ k, i = p + k := ⟨i - p, by omega⟩
    rw [stack_add]
    by_cases e2 : k < m
    · rw [stack_lt e2]; exact h2 k e2
    · obtain ⟨l, rfl⟩ : ∃ l, k = m + l := ⟨k - m, by omega⟩
      rw [stack_add]; exact h3 l (by omega)

theorem Prt.start {n : Nat} {A P N : Mx Rat} : Prt n 0 0 n A P N idm where
  pp := fun i h => absurd h (Nat.not_lt_zero i)
  nn := fun i h => absurd h (Nat.not_lt_zero i)
  po := fun i _ h => absurd h (Nat.not_lt_zero i)
  no := fun i _ h => absurd h (Nat.not_lt_zero i)
  pn := fun i _ h => absurd h (Nat.not_lt_zero i)
  wp := fun _ j _ h => absurd h (Nat.not_lt_zero j)
  wn := fun _ j _ h => absurd h (Nat.not_lt_zero j)
  all := fun x => (sp_all x).trans fun _ hi => sp_w hi

theorem Prt.neg {n p m r : Nat} {A P N L : Mx Rat} (hA : ∀ i j, i < n → j < n → A i j = A j i) (h : Prt n p m r A P N L) : Prt n m p r (fun i j => -A i j) N P L where
  pp := fun i hi => by rw [bl_negA]; have := h.nn i hi; grind
  nn := fun i hi => by rw [bl_negA]; have := h.pp i hi; grind
  po := fun i j hi hj hne => by rw [bl_negA, h.no i j hi hj hne, neg_zero]
  no := fun i j hi hj hne => by rw [bl_negA, h.po i j hi hj hne, neg_zero]
  pn := fun i j hi hj => by rw [bl_negA, bl_symm hA, h.pn j i hj hi, neg_zero]
  wp := fun i j hi hj => by rw [bl_negA, h.wn i j hi hj, neg_zero]
  wn := fun i j hi hj => by rw [bl_negA, h.wp i j hi hj, neg_zero]
  all := fun x => (h.all x).trans (three_cases (fun _ hi => sp_n hi) (fun _ hi => sp_p hi) (fun _ hi => sp_w hi))
theorem Prt.congr {n p m r : Nat} {A B P N L : Mx Rat} (h : Prt n p m r A P N L) (e : ∀ i j, i < n → j < n → A i j = B i j) : Prt n p m r B P N L := by
  have e1 : ∀ x y, bl n B x y = bl n A x y := fun x y => (bl_congr e (fun _ _ => rfl) (fun _ _ => rfl)).symm
  exact ⟨fun i hi => by rw [e1]; exact h.pp i hi, fun i hi => by rw [e1]; exact h.nn i hi, fun i j hi hj hn => by rw [e1]; exact h.po i j hi hj hn, fun i j hi hj hn => by rw [e1]; exact h.no i j hi hj hn,
    fun i j hi hj => by rw [e1]; exact h.pn i j hi hj, fun i j hi hj => by rw [e1]; exact h.wp i j hi hj, fun i j hi hj => by rw [e1]; exact h.wn i j hi hj, h.all⟩

theorem bl_sp_zero {n r : Nat} {A X : Mx Rat} {x y : Nat → Rat} (h : ∀ k, k < r → bl n A (X k) y = 0) (hx : Sp r n X x) : bl n A x y = 0 := by
  obtain ⟨c, hc⟩ := hx
  rw [bl_left hc]
  exact sm_zero fun k hk => by rw [h k hk, mul_zero]

/-- A vector of what is left, with a positive value, is split off. -/
theorem Prt.pos {n p m r r' : Nat} {A P N L L' X : Mx Rat} {v : Nat → Rat} (hA : ∀ i j, i < n → j < n → A i j = A j i) (h : Prt n p m r A P N L) (hv : Sp r n L v) (hq : 0 < bl n A v v)
    (hn : ∀ i j, i < r → j < n → X i j = L i j + -(bl n A (L i) v / bl n A v v) * v j) (e : Same r' r n L' X) : Prt n (p + 1) m r' A (setr P p v) N L' := by
  have hq0 : bl n A v v ≠ 0 := fun e => by rw [e] at hq; exact absurd hq (by decide)
  have hvp : ∀ j, j < p → bl n A v (P j) = 0 := fun j hj => bl_sp_zero (fun k hk => h.wp k j hk hj) hv
  have hvn : ∀ j, j < m → bl n A v (N j) = 0 := fun j hj => bl_sp_zero (fun k hk => h.wn k j hk hj) hv
  have hX : ∀ i y, i < r → bl n A (X i) y = bl n A (L i) y + -(bl n A (L i) v / bl n A v v) * bl n A v y := fun i y hi => by
    rw [bl_congr (B := A) (x' := fun j => L i j + -(bl n A (L i) v / bl n A v v) * v j) (y' := y) (fun _ _ _ _ => rfl) (fun j hj => hn i j hi hj) (fun _ _ => rfl), bl_comb_left]
  have hXv : ∀ i, i < r → bl n A (X i) v = 0 := fun i hi => by
    rw [hX i v hi, Rat.div_def, neg_mul, Rat.mul_assoc, Rat.inv_mul_cancel _ hq0, Rat.mul_one, add_neg_self]
  have hlt : ∀ {i : Nat}, i < p + 1 → i ≠ p → i < p := fun h1 h2 => by omega
  refine ⟨fun i hi => ?_, h.nn, fun i j hi hj hne => ?_, h.no, fun i j hi hj => ?_, fun i j hi hj => ?_, fun i j hi hj => ?_, fun x => ?_⟩
  · by_cases e1 : i = p
    · subst e1; rw [setr_at]; exact hq
    · rw [setr_ne _ _ e1]; exact h.pp i (hlt hi e1)
  · by_cases e1 : i = p
    · subst e1
      rw [setr_at, setr_ne _ _ (Ne.symm hne)]
      exact hvp j (hlt hj (Ne.symm hne))
    · rw [setr_ne _ _ e1]
      by_cases e2 : j = p
      · subst e2
        rw [setr_at, bl_symm hA]; exact hvp i (hlt hi e1)
      · rw [setr_ne _ _ e2]; exact h.po i j (hlt hi e1) (hlt hj e2) hne
  · by_cases e1 : i = p
    · subst e1; rw [setr_at]; exact hvn j hj
    · rw [setr_ne _ _ e1]; exact h.pn i j (hlt hi e1) hj
  · refine bl_sp_zero (fun k hk => ?_) (e.lt i hi)
    by_cases e1 : j = p
    · subst e1; rw [setr_at]; exact hXv k hk
    · rw [setr_ne _ _ e1, hX k _ hk, h.wp k j hk (hlt hj e1), hvp j (hlt hj e1), mul_zero, add_zero]
  · refine bl_sp_zero (fun k hk => ?_) (e.lt i hi)
    rw [hX k _ hk, h.wn k j hk hj, hvn j hj, mul_zero, add_zero]
  · have hv1 : Sp (p + 1 + (m + r')) n (stack (p + 1) (setr P p v) (stack m N L')) v := by
      have := sp_p (n := n) (p := p + 1) (m := m) (r := r') (P := setr P p v) (N := N) (L := L') (i := p) (by omega)
      rwa [setr_at] at this
    refine (h.all x).trans (three_cases (fun i hi => ?_) (fun i hi => sp_n hi) (fun i hi => ?_))
    · have := sp_p (n := n) (p := p + 1) (m := m) (r := r') (P := setr P p v) (N := N) (L := L') (i := i) (by omega)
      rwa [setr_ne _ _ (by omega)] at this
    · have h1 : Sp (p + 1 + (m + r')) n (stack (p + 1) (setr P p v) (stack m N L')) (X i) := (e.rt i hi).trans fun k hk => sp_w hk
      refine (h1.comb (bl n A (L i) v / bl n A v v) hv1).congr (fun _ _ _ _ => rfl) fun j hj => ?_
      show X i j + _ = _
      rw [hn i j hi hj, neg_mul, add_assoc, neg_add_self, add_zero]

theorem Prt.negv {n p m r r' : Nat} {A P N L L' X : Mx Rat} {v : Nat → Rat} (hA : ∀ i j, i < n → j < n → A i j = A j i) (h : Prt n p m r A P N L) (hv : Sp r n L v) (hq : bl n A v v < 0)
    (hn : ∀ i j, i < r → j < n → X i j = L i j + -(bl n A (L i) v / bl n A v v) * v j) (e : Same r' r n L' X) : Prt n p (m + 1) r' A P (setr N m v) L' := by
  have hB : ∀ i j, i < n → j < n → (fun i j => -A i j) i j = (fun i j => -A i j) j i := fun i j hi hj => by show -A i j = -A j i; rw [hA i j hi hj]
  refine (Prt.neg hB ((Prt.neg hA h).pos (X := X) (L' := L') (r' := r') hB hv (by rw [bl_negA]; grind) (fun i j hi hj => ?_) e)).congr fun i j _ _ => neg_neg _
  rw [bl_negA, bl_negA, hn i j hi hj]
  have hq0 : bl n A v v ≠ 0 := fun e => by rw [e] at hq; exact absurd hq (by decide)
  have hq1 : -bl n A v v ≠ 0 := fun e => hq0 (by rw [← neg_neg (bl n A v v), e, neg_zero])
  have hi : (-bl n A v v)⁻¹ = -(bl n A v v)⁻¹ := mul_left_can hq1 (by rw [mul_inv _ hq1, neg_mul, mul_neg, neg_neg, mul_inv _ hq0])
  rw [Rat.div_def, Rat.div_def, hi, neg_mul (bl n A (L i) v), mul_neg, neg_neg]

/-- The last place where numbers are not 0. -/
theorem last_ne {y : Nat → Rat} : ∀ {r : Nat}, (∃ i, i < r ∧ y i ≠ 0) → ∃ t, t < r ∧ y t ≠ 0 ∧ ∀ i, t < i → i < r → y i = 0
  | 0, ⟨i, h, _⟩ => absurd h (Nat.not_lt_zero i)
  | r + 1, ⟨i, h, h0⟩ => by
    by_cases e : y r = 0
    · obtain ⟨t, h1, h2, h3⟩ := last_ne (r := r) ⟨i, by
        by_cases e1 : i = r
        · subst e1; exact absurd e h0
        · omega, h0⟩
      refine ⟨t, by omega, h2, fun k hk hk2 => ?_⟩
      by_cases e1 : k = r
      · subst e1; exact e
      · exact h3 k hk (by omega)
    · exact ⟨r, by omega, e, fun k h1 h2 => by omega⟩

theorem skip_ne {j k : Nat} : skip j k ≠ j := by unfold skip; split <;> omega
theorem skip_mono {j i k : Nat} (h : i < k) : skip j i < skip j k := by unfold skip; split <;> split <;> omega
theorem skip_inj {j i k : Nat} (h : skip j i = skip j k) : i = k := by unfold skip at h; split at h <;> split at h <;> omega
theorem skip_of {j k r : Nat} (h : k < r + 1) (hn : k ≠ j) (hj : j < r + 1) : ∃ l, l < r ∧ skip j l = k := by
  by_cases e : k < j
  · exact ⟨k, by omega, by unfold skip; rw [if_pos e]⟩
  · exact ⟨k - 1, by omega, by unfold skip; rw [if_neg (by omega)]; omega⟩

/-- The rows that are orthogonal to a vector, by the last row that is not. -/
theorem next_ech {r n t : Nat} {R X : Mx Rat} {p : Nat → Nat} {y : Nat → Rat} (h : Ech (r + 1) n R p) (ht : t < r + 1) (hz : ∀ i, t < i → i < r + 1 → y i = 0)
    (hX : ∀ i j, i < r → j < n → X i j = R (skip t i) j + -(y (skip t i) / y t) * R t j) : Ech r n X (fun i => p (skip t i)) where
  lt := fun i hi => h.lt _ (skip_lt hi)
  mono := fun i k hik hk => h.mono _ _ (skip_mono hik) (skip_lt hk)
  one := fun i k hi hk => by
    rw [hX i _ hi (h.lt _ (skip_lt hk)), h.one _ _ (skip_lt hi) (skip_lt hk), h.one t _ ht (skip_lt hk), if_neg (Ne.symm skip_ne), mul_zero, add_zero]
    by_cases e : i = k
    · rw [if_pos e, if_pos (by rw [e])]
    · rw [if_neg e, if_neg fun e2 => e (skip_inj e2)]
  zero := fun i j hi hj => by
    have hjn : j < n := Nat.lt_trans hj (h.lt _ (skip_lt hi))
    rw [hX i j hi hjn, h.zero _ j (skip_lt hi) hj, zero_add]
    by_cases e : t < skip t i
    · rw [hz _ e (skip_lt hi), Rat.div_def, zero_mul, neg_zero, zero_mul]
    · have h1 : skip t i < t := Nat.lt_of_le_of_ne (by omega) skip_ne
      rw [h.zero t j ht (Nat.lt_trans hj (h.mono _ _ h1 ht)), mul_zero]

theorem next_same {r n t : Nat} {A R X Y : Mx Rat} {v : Nat → Rat} (ht : t < r + 1) (hv : Sp (r + 1) n R v) (hq : bl n A v v ≠ 0) (h0 : bl n A (R t) v ≠ 0)
    (hX : ∀ i j, i < r → j < n → X i j = R (skip t i) j + -(bl n A (R (skip t i)) v / bl n A (R t) v) * R t j)
    (hY : ∀ i j, i < r + 1 → j < n → Y i j = R i j + -(bl n A (R i) v / bl n A v v) * v j) : Same r (r + 1) n X Y := by
  have hXv : ∀ i, i < r → bl n A (X i) v = 0 := fun i hi => by
    rw [bl_congr (B := A) (x' := fun j => R (skip t i) j + -(bl n A (R (skip t i)) v / bl n A (R t) v) * R t j) (y' := v) (fun _ _ _ _ => rfl) (fun j hj => hX i j hi hj) (fun _ _ => rfl), bl_comb_left,
      Rat.div_def, neg_mul, Rat.mul_assoc, Rat.inv_mul_cancel _ h0, Rat.mul_one, add_neg_self]
  have hYv : ∀ i, i < r + 1 → bl n A (Y i) v = 0 := fun i hi => by
    rw [bl_congr (B := A) (x' := fun j => R i j + -(bl n A (R i) v / bl n A v v) * v j) (y' := v) (fun _ _ _ _ => rfl) (fun j hj => hY i j hi hj) (fun _ _ => rfl), bl_comb_left,
      Rat.div_def, neg_mul, Rat.mul_assoc, Rat.inv_mul_cancel _ hq, Rat.mul_one, add_neg_self]
  refine ⟨fun i hi => ?_, fun i hi => ?_⟩
  · have h1 : Sp (r + 1) n R (X i) := ((Sp.row (skip_lt hi)).comb _ (Sp.row ht)).congr (fun _ _ _ _ => rfl) (fun j hj => (hX i j hi hj).symm)
    obtain ⟨z, hz⟩ := h1
    have h2 := hXv i hi
    rw [bl_left hz] at h2
    refine ⟨z, fun j hj => ?_⟩
    rw [hz j hj, sm_congr (f := fun k => z k * Y k j) (g := fun k => z k * R k j + (-v j * (bl n A v v)⁻¹) * (z k * bl n A (R k) v)) fun k hk => by
      rw [hY k j hk hj, Rat.div_def]; grind, sm_add, sm_mul, h2, mul_zero, add_zero]
  · have h1 : Sp (r + 1) n R (Y i) := ((Sp.row hi).comb _ hv).congr (fun _ _ _ _ => rfl) (fun j hj => (hY i j hi hj).symm)
    obtain ⟨z, hz⟩ := h1
    have h2 := hYv i hi
    rw [bl_left hz] at h2
    have h3 : Sp r n X (fun j => sm (r + 1) fun k => z k * (R k j + -(bl n A (R k) v / bl n A (R t) v) * R t j)) := by
      refine Sp.sum z (fun k j => R k j + -(bl n A (R k) v / bl n A (R t) v) * R t j) fun k hk => ?_
      by_cases e : k = t
      · subst e
        refine Sp.zero.congr (fun _ _ _ _ => rfl) fun j _ => ?_
        show (0 : Rat) = _
        rw [Rat.div_def, Rat.mul_inv_cancel _ h0, neg_mul, one_mul, add_neg_self]
      · obtain ⟨l, hl, rfl⟩ := skip_of hk e ht
        exact (Sp.row hl).congr (fun _ _ _ _ => rfl) fun j hj => hX l j hl hj
    refine h3.congr (fun _ _ _ _ => rfl) fun j hj => ?_
    rw [hz j hj, sm_congr (f := fun k => z k * (R k j + -(bl n A (R k) v / bl n A (R t) v) * R t j)) (g := fun k => z k * R k j + (-R t j * (bl n A (R t) v)⁻¹) * (z k * bl n A (R k) v)) fun k hk => by
      rw [Rat.div_def]; grind, sm_add, sm_mul, h2, mul_zero, add_zero]

/-- What is left after a vector is split off: one row less, known by numbers. -/
theorem next_of {r n : Nat} {A R Y R' : Mx Rat} {p p' : Nat → Nat} {r' : Nat} {v : Nat → Rat} (h : Ech r n R p) (hv : Sp r n R v) (hq : bl n A v v ≠ 0)
    (hY : ∀ i j, i < r → j < n → Y i j = R i j + -(bl n A (R i) v / bl n A v v) * v j) (h' : Ech r' n R' p') (e : Same r' r n R' Y) :
    r = r' + 1 ∧ ∃ t, t < r ∧ bl n A (R t) v ≠ 0 ∧ ∀ i j, i < r' → j < n → R' i j = R (skip t i) j + -(bl n A (R (skip t i)) v / bl n A (R t) v) * R t j := by
  obtain ⟨z, hz⟩ := id hv
  have hex : ∃ i, i < r ∧ bl n A (R i) v ≠ 0 := by
    refine Classical.byContradiction fun hn => hq ?_
    rw [bl_left hz]
    exact sm_zero fun k hk => by
      rw [show bl n A (R k) v = 0 from Classical.byContradiction fun h => hn ⟨k, hk, h⟩, mul_zero]
  obtain ⟨t, ht, h0, hlast⟩ := last_ne (y := fun i => bl n A (R i) v) hex
  cases r with
  | zero => omega
  | succ r =>
    have e1 := next_ech (X := fun i j => R (skip t i) j + -(bl n A (R (skip t i)) v / bl n A (R t) v) * R t j) (y := fun i => bl n A (R i) v) h ht hlast (fun _ _ _ _ => rfl)
    have e2 := next_same (X := fun i j => R (skip t i) j + -(bl n A (R (skip t i)) v / bl n A (R t) v) * R t j) ht hv hq h0 (fun _ _ _ _ => rfl) hY
    obtain ⟨h1, -, h3⟩ := h'.unique e1 (e.trans e2.symm)
    exact ⟨by omega, t, ht, h0, fun i j hi hj => h3 i j hi hj⟩

end Go.La
