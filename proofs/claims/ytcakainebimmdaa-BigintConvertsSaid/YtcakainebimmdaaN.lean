/- Lists of digits to the base 2^32 and the numbers that they stand for. No program; no condition. -/
namespace Go.Hp

def val : List Nat → Nat
  | [] => 0
  | d :: r => d + 4294967296 * val r

abbrev Bd (l : List Nat) : Prop := ∀ d ∈ l, d < 4294967296

theorem val_append (a b : List Nat) : val (a ++ b) = val a + 4294967296 ^ a.length * val b := by
  induction a with
  | nil => simp [val]
  | cons d r ih =>
    simp only [List.cons_append, val, ih, List.length_cons, Nat.pow_succ]
    grind
theorem val_lt {l : List Nat} (h : Bd l) : val l < 4294967296 ^ l.length := by
  induction l with
  | nil => simp [val]
  | cons d r ih =>
    have h1 := h d (List.mem_cons_self ..)
    have h2 := ih fun x hx => h x (List.mem_cons_of_mem _ hx)
    simp only [val, List.length_cons, Nat.pow_succ]
    generalize 4294967296 ^ r.length = p at *
    omega
theorem val_replicate (n : Nat) : val (List.replicate n 0) = 0 := by
  induction n with
  | zero => rfl
  | succ n ih => simp [List.replicate_succ, val, ih]
theorem val_single (d : Nat) : val [d] = d := by simp [val]
theorem val_snoc (a : List Nat) (d : Nat) : val (a ++ [d]) = val a + 4294967296 ^ a.length * d := by rw [val_append, val_single]
theorem val_take_succ {l : List Nat} {k d : Nat} (h : l[k]? = some d) : val (l.take (k + 1)) = val (l.take k) + 4294967296 ^ k * d := by
  obtain ⟨hl, he⟩ := List.getElem?_eq_some_iff.1 h
  rw [List.take_succ_eq_append_getElem hl, he, val_snoc, List.length_take, Nat.min_eq_left (by omega)]
theorem val_split (l : List Nat) (k : Nat) (h : k ≤ l.length) : val l = val (l.take k) + 4294967296 ^ k * val (l.drop k) := by
  have := val_append (l.take k) (l.drop k)
  rw [List.take_append_drop, List.length_take, Nat.min_eq_left h] at this
  exact this

/-! ### no leading zeros -/
def tl (l : List Nat) : List Nat := (l.reverse.dropWhile (· == 0)).reverse

theorem tl_take_succ {l : List Nat} {k : Nat} (h : l[k]? = some 0) : tl (l.take (k + 1)) = tl (l.take k) := by
  obtain ⟨hl, he⟩ := List.getElem?_eq_some_iff.1 h
  rw [List.take_succ_eq_append_getElem hl, he]
  simp [tl]
theorem tl_take_stop {l : List Nat} {k d : Nat} (h : l[k]? = some d) (hd : d ≠ 0) : tl (l.take (k + 1)) = l.take (k + 1) := by
  obtain ⟨hl, he⟩ := List.getElem?_eq_some_iff.1 h
  rw [List.take_succ_eq_append_getElem hl, he]
  simp [tl, hd]
theorem tl_snoc_zero (l : List Nat) : tl (l ++ [0]) = tl l := by simp [tl]
theorem tl_snoc {d : Nat} (l : List Nat) (hd : d ≠ 0) : tl (l ++ [d]) = l ++ [d] := by simp [tl, hd]

theorem snoc_cases (l : List Nat) : l = [] ∨ ∃ r d, l = r ++ [d] := by
  rcases List.eq_nil_or_concat l with h | ⟨r, d, h⟩
  · exact .inl h
  · exact .inr ⟨r, d, by simpa using h⟩

theorem tl_split (l : List Nat) : ∃ k, l = tl l ++ List.replicate k 0 := by
  have : ∀ n (l : List Nat), l.length = n → ∃ k, l = tl l ++ List.replicate k 0 := by
    intro n
    induction n with
    | zero => intro l hl; exact ⟨0, by rw [List.eq_nil_of_length_eq_zero hl]; rfl⟩
    | succ n ih =>
      intro l hl
      rcases snoc_cases l with rfl | ⟨r, d, rfl⟩
      · cases hl
      · by_cases hd : d = 0
        · subst hd
          obtain ⟨k, hk⟩ := ih r (by simpa using hl)
          exact ⟨k + 1, by rw [tl_snoc_zero, List.replicate_succ', ← List.append_assoc, ← hk]⟩
        · exact ⟨0, by rw [tl_snoc r hd]; simp⟩
  exact this _ l rfl
theorem val_tl (l : List Nat) : val (tl l) = val l := by
  obtain ⟨k, hk⟩ := tl_split l
  have := congrArg val hk
  rw [val_append, val_replicate, Nat.mul_zero, Nat.add_zero] at this
  exact this.symm
theorem tl_take (l : List Nat) : tl l = l.take (tl l).length := by
  obtain ⟨k, hk⟩ := tl_split l
  have := congrArg (List.take (tl l).length) hk
  rw [List.take_left] at this
  exact this.symm
theorem tl_length_le (l : List Nat) : (tl l).length ≤ l.length := by
  have := congrArg List.length (tl_take l)
  rw [List.length_take] at this
  omega
theorem tl_bd {l : List Nat} (h : Bd l) : Bd (tl l) := by
  rw [tl_take]; exact fun d hd => h d (List.mem_of_mem_take hd)
theorem tl_tl (l : List Nat) : tl (tl l) = tl l := by
  have : ∀ n (l : List Nat), l.length = n → tl (tl l) = tl l := by
    intro n
    induction n with
    | zero => intro l hl; rw [List.eq_nil_of_length_eq_zero hl]; rfl
    | succ n ih =>
      intro l hl
      rcases snoc_cases l with rfl | ⟨r, d, rfl⟩
      · rfl
      · by_cases hd : d = 0
        · subst hd; rw [tl_snoc_zero]; exact ih r (by simpa using hl)
        · rw [tl_snoc r hd, tl_snoc r hd]
  exact this _ l rfl

/-- Digits without leading zeros. -/
structure Cn (l : List Nat) : Prop where
  bd : Bd l
  tr : tl l = l
theorem cn_tl {l : List Nat} (h : Bd l) : Cn (tl l) := ⟨tl_bd h, tl_tl l⟩
theorem Cn.nil : Cn [] := ⟨fun _ h => (by cases h), rfl⟩

theorem Cn.last {l : List Nat} {d : Nat} (h : Cn (l ++ [d])) : d ≠ 0 := by
  intro e
  subst e
  have h1 := h.tr
  rw [tl_snoc_zero] at h1
  have := tl_length_le l
  rw [h1] at this
  simp at this
  omega
/-- The number of digits is that of the number. -/
theorem Cn.ge {l : List Nat} (h : Cn l) (hne : l ≠ []) : 4294967296 ^ (l.length - 1) ≤ val l := by
  rcases snoc_cases l with rfl | ⟨r, d, rfl⟩
  · exact absurd rfl hne
  · have hd := h.last
    rw [val_snoc]
    simp only [List.length_append, List.length_singleton, Nat.add_sub_cancel]
    have : 4294967296 ^ r.length * 1 ≤ 4294967296 ^ r.length * d := Nat.mul_le_mul_left _ (by omega)
    omega
theorem Cn.len_le {a b : List Nat} (ha : Cn a) (hb : Bd b) (h : val a ≤ val b) : a.length ≤ b.length := by
  rcases Nat.lt_or_ge b.length a.length with hlt | hge
  · exfalso
    have h1 := ha.ge (fun e => by subst e; simp at hlt)
    have h2 := val_lt hb
    have h3 : 4294967296 ^ b.length ≤ 4294967296 ^ (a.length - 1) := Nat.pow_le_pow_right (by omega) (by omega)
    omega
  · exact hge
theorem val_inj {a b : List Nat} (ha : Bd a) (hb : Bd b) (hl : a.length = b.length) (h : val a = val b) : a = b := by
  induction a generalizing b with
  | nil => exact (List.eq_nil_of_length_eq_zero hl.symm).symm
  | cons d r ih =>
    cases b with
    | nil => cases hl
    | cons e s =>
      have h1 := ha d (List.mem_cons_self ..)
      have h2 := hb e (List.mem_cons_self ..)
      simp only [val] at h
      have h3 : d = e := by omega
      have h4 : val r = val s := by omega
      rw [h3, ih (fun x hx => ha x (List.mem_cons_of_mem _ hx)) (fun x hx => hb x (List.mem_cons_of_mem _ hx)) (by simpa using hl) h4]
theorem Cn.inj {a b : List Nat} (ha : Cn a) (hb : Cn b) (h : val a = val b) : a = b :=
  val_inj ha.bd hb.bd (Nat.le_antisymm (ha.len_le hb.bd (Nat.le_of_eq h)) (hb.len_le ha.bd (Nat.le_of_eq h.symm))) h
theorem Cn.zero {a : List Nat} (ha : Cn a) : val a = 0 ↔ a = [] :=
  ⟨fun h => ha.inj Cn.nil h, fun h => by rw [h]; rfl⟩
theorem tl_eq_nil {l : List Nat} (h : Bd l) : tl l = [] ↔ val l = 0 := by
  rw [← val_tl l]; exact (Cn.zero (cn_tl h)).symm

theorem set_next {r : List Nat} {m x : Nat} : (r ++ List.replicate (m + 1) 0).set r.length x = (r ++ [x]) ++ List.replicate m 0 := by
  rw [List.set_append_right _ _ (Nat.le_refl _), Nat.sub_self, List.replicate_succ, List.set_cons_zero, List.append_assoc]
  rfl
theorem bd_snoc {l : List Nat} {d : Nat} (h : Bd l) (hd : d < 4294967296) : Bd (l ++ [d]) := by
  intro x hx
  rcases List.mem_append.1 hx with hx | hx
  · exact h x hx
  · simp at hx; omega
theorem bd_take {l : List Nat} (h : Bd l) (k : Nat) : Bd (l.take k) := fun d hd => h d (List.mem_of_mem_take hd)
theorem bd_drop {l : List Nat} (h : Bd l) (k : Nat) : Bd (l.drop k) := fun d hd => h d (List.mem_of_mem_drop hd)
theorem bd_get {l : List Nat} (h : Bd l) {k d : Nat} (hk : l[k]? = some d) : d < 4294967296 := h d (List.mem_of_getElem? hk)

theorem set_at {r : List Nat} {n i x : Nat} (hr : r.length = i) (hi : i < n) : (r ++ List.replicate (n - i) 0).set i x = (r ++ [x]) ++ List.replicate (n - (i + 1)) 0 := by
  have e : n - i = (n - (i + 1)) + 1 := by omega
  rw [e, ← hr, set_next]
theorem take_all {l : List Nat} {n : Nat} (h : l.length ≤ n) : l.take n = l := List.take_of_length_le h
theorem take_more {l : List Nat} {i : Nat} (h : l.length ≤ i) : val (l.take (i + 1)) = val (l.take i) + 4294967296 ^ i * 0 := by
  rw [take_all (by omega), take_all h]; simp
theorem cn_one {n : Nat} (h : n < 4294967296) (h0 : n ≠ 0) : Cn [n] := by
  refine ⟨fun d hd => ?_, ?_⟩
  · simp only [List.mem_singleton] at hd; omega
  · simp [tl, h0]
theorem cn_two {m n : Nat} (hm : m < 4294967296) (h : n < 4294967296) (h0 : n ≠ 0) : Cn [m, n] := by
  refine ⟨fun d hd => ?_, ?_⟩
  · simp only [List.mem_cons, List.not_mem_nil, or_false] at hd; omega
  · simp [tl, h0]
theorem val_two (m n : Nat) : val [m, n] = n * 4294967296 + m := by simp only [val]; omega
/-- Lists of digits without leading zeros are compared by their lengths first. -/
theorem Cn.lt_of_len {a b : List Nat} (ha : Bd a) (hb : Cn b) (h : a.length < b.length) : val a < val b := by
  have h1 := val_lt ha
  have h2 := hb.ge (fun e => by subst e; simp at h)
  have h3 : 4294967296 ^ a.length ≤ 4294967296 ^ (b.length - 1) := Nat.pow_le_pow_right (by omega) (by omega)
  omega
/-- .. then from the first digit on. -/
theorem lt_of_digit {a b : List Nat} (ha : Bd a) (_hb : Bd b) {k x y : Nat} (hx : a[k]? = some x) (hy : b[k]? = some y) (hl : a.length = b.length) (hd : a.drop (k + 1) = b.drop (k + 1)) (h : x < y) : val a < val b := by
  have h1 := (List.getElem?_eq_some_iff.1 hx).1
  have e1 := val_split a (k + 1) (by omega)
  have e2 := val_split b (k + 1) (by omega)
  rw [val_take_succ hx] at e1
  rw [val_take_succ hy] at e2
  rw [hd] at e1
  have h2 := val_lt (bd_take ha k)
  rw [List.length_take, Nat.min_eq_left (by omega)] at h2
  have h3 : 4294967296 ^ k * (x + 1) ≤ 4294967296 ^ k * y := Nat.mul_le_mul_left _ h
  rw [Nat.mul_add] at h3
  omega
theorem drop_step {a b : List Nat} {k x : Nat} (hx : a[k]? = some x) (hy : b[k]? = some x) (hd : a.drop (k + 1) = b.drop (k + 1)) : a.drop k = b.drop k := by
  obtain ⟨h1, e1⟩ := List.getElem?_eq_some_iff.1 hx
  obtain ⟨h2, e2⟩ := List.getElem?_eq_some_iff.1 hy
  rw [List.drop_eq_getElem_cons h1, List.drop_eq_getElem_cons h2, e1, e2, hd]

end Go.Hp
