/- A symmetric matrix made diagonal by congruences; numbers in place of vectors. No condition. -/
import Derived.Test.YtcfgogamamdipaaGreatLk
namespace Go.La

def cnt : Nat → (Nat → Bool) → Nat
  | 0, _ => 0
  | n + 1, d => cnt n d + if d n then 1 else 0
def setb (d : Nat → Bool) (i : Nat) : Nat → Bool := fun r => if r = i then true else d r
theorem setb_at {d : Nat → Bool} {i : Nat} : setb d i i = true := if_pos rfl
theorem setb_ne {d : Nat → Bool} {i r : Nat} (h : r ≠ i) : setb d i r = d r := if_neg h
theorem cnt_le (d : Nat → Bool) : ∀ n, cnt n d ≤ n
  | 0 => Nat.le_refl 0
  | n + 1 => by
    show cnt n d + (if d n then 1 else 0) ≤ n + 1
    have := cnt_le d n
    split <;> omega
theorem cnt_lt {d : Nat → Bool} {i : Nat} (h0 : d i = false) : ∀ {n}, i < n → cnt n d < n
  | 0, h => absurd h (Nat.not_lt_zero i)
  | n + 1, h => by
    show cnt n d + (if d n then 1 else 0) < n + 1
    by_cases e : i = n
    · subst e
      rw [h0]
      have := cnt_le d i
      simp; omega
    · have := cnt_lt h0 (n := n) (by omega)
      split <;> omega
theorem cnt_congr {d e : Nat → Bool} : ∀ {n}, (∀ r, r < n → d r = e r) → cnt n d = cnt n e
  | 0, _ => rfl
  | n + 1, h => by
    show cnt n d + (if d n then 1 else 0) = cnt n e + (if e n then 1 else 0)
    rw [cnt_congr (n := n) fun r hr => h r (by omega), h n (by omega)]
theorem cnt_set {d : Nat → Bool} {i : Nat} (h0 : d i = false) : ∀ {n}, i < n → cnt n (setb d i) = cnt n d + 1
  | 0, h => absurd h (Nat.not_lt_zero i)
  | n + 1, h => by
    show cnt n (setb d i) + (if setb d i n then 1 else 0) = cnt n d + (if d n then 1 else 0) + 1
    by_cases e : i = n
    · subst e
      rw [h0, setb_at, cnt_congr (d := setb d i) (e := d) fun r hr => setb_ne (by omega)]
      simp
    · rw [cnt_set h0 (n := n) (by omega), setb_ne (Ne.symm e)]
      omega
theorem cnt_zero : ∀ n, cnt n (fun _ => false) = 0
  | 0 => rfl
  | n + 1 => by
    show cnt n (fun _ => false) + (if false then 1 else 0) = 0
    rw [cnt_zero n]; rfl

/-- The rows of L that are done are among P and N. -/
structure Pdn (n p m : Nat) (A : Mx Rat) (dn : Nat → Bool) (L P N : Mx Rat) : Prop where
  pp : ∀ i, i < p → 0 < bl n A (P i) (P i)
  nn : ∀ i, i < m → bl n A (N i) (N i) < 0
  po : ∀ i j, i < p → j < p → i ≠ j → bl n A (P i) (P j) = 0
  no : ∀ i j, i < m → j < m → i ≠ j → bl n A (N i) (N j) = 0
  pn : ∀ i j, i < p → j < m → bl n A (P i) (N j) = 0
  don : ∀ r, r < n → dn r = true → (∃ i, i < p ∧ P i = L r) ∨ ∃ i, i < m ∧ N i = L r
  wp : ∀ r j, r < n → dn r = false → j < p → bl n A (L r) (P j) = 0
  wn : ∀ r j, r < n → dn r = false → j < m → bl n A (L r) (N j) = 0
  all : ∀ x, Sp n n L x
  num : p + m = cnt n dn

theorem Pdn.start {n : Nat} {A P N : Mx Rat} : Pdn n 0 0 A (fun _ => false) idm P N where
  pp := fun i h => absurd h (Nat.not_lt_zero i)
  nn := fun i h => absurd h (Nat.not_lt_zero i)
  po := fun i _ h => absurd h (Nat.not_lt_zero i)
  no := fun i _ h => absurd h (Nat.not_lt_zero i)
  pn := fun i _ h => absurd h (Nat.not_lt_zero i)
  don := fun _ _ h => by cases h
  wp := fun _ j _ _ h => absurd h (Nat.not_lt_zero j)
  wn := fun _ j _ _ h => absurd h (Nat.not_lt_zero j)
  all := sp_all
  num := (cnt_zero n).symm

theorem Pdn.sig {n p m : Nat} {A L P N : Mx Rat} {dn : Nat → Bool} (h : Pdn n p m A dn L P N) (hz : ∀ r c, r < n → c < n → dn r = false → dn c = false → bl n A (L r) (L c) = 0) :
    Sig n p m n A P N (fun r => if dn r then fun _ => 0 else L r) where
  pp := h.pp
  nn := h.nn
  po := h.po
  no := h.no
  pn := h.pn
  wo := fun i j hi hj => by
    have z1 : ∀ x : Nat → Rat, bl n A (fun _ => 0) x = 0 := fun x => sm_zero fun k _ => by rw [sm_zero fun _ _ => zero_mul _, zero_mul]
    have z2 : ∀ x : Nat → Rat, bl n A x (fun _ => 0) = 0 := fun x => sm_zero fun k _ => mul_zero _
    cases e1 : dn i with
    | true => simp only [if_true]; exact z1 _
    | false =>
      cases e2 : dn j with
      | true => simp only [if_true]; exact z2 _
      | false => simpa using hz i j hi hj e1 e2
  wp := fun i j hi hj => by
    cases e1 : dn i with
    | true => simp only [if_true]; exact sm_zero fun k _ => by rw [sm_zero fun _ _ => zero_mul _, zero_mul]
    | false => simpa using h.wp i j hi e1 hj
  wn := fun i j hi hj => by
    cases e1 : dn i with
    | true => simp only [if_true]; exact sm_zero fun k _ => by rw [sm_zero fun _ _ => zero_mul _, zero_mul]
    | false => simpa using h.wn i j hi e1 hj
  all := fun x => (h.all x).trans fun r hr => by
    cases e1 : dn r with
    | true =>
      rcases h.don r hr e1 with ⟨i, hi, e⟩ | ⟨i, hi, e⟩
      · rw [← e]; exact sp_p hi
      · rw [← e]; exact sp_n hi
    | false =>
      have := sp_w (n := n) (p := p) (m := m) (r := n) (P := P) (N := N) (L := fun r => if dn r then fun _ => 0 else L r) hr
      simpa only [e1, Bool.false_eq_true, if_false] using this

theorem Pdn.neg {n p m : Nat} {A L P N : Mx Rat} {dn : Nat → Bool} (hA : ∀ i j, i < n → j < n → A i j = A j i) (h : Pdn n p m A dn L P N) : Pdn n m p (fun i j => -A i j) dn L N P where
  pp := fun i hi => by rw [bl_negA]; have := h.nn i hi; grind
  nn := fun i hi => by rw [bl_negA]; have := h.pp i hi; grind
  po := fun i j hi hj hne => by rw [bl_negA, h.no i j hi hj hne, neg_zero]
  no := fun i j hi hj hne => by rw [bl_negA, h.po i j hi hj hne, neg_zero]
  pn := fun i j hi hj => by rw [bl_negA, bl_symm hA, h.pn j i hj hi, neg_zero]
  don := fun r hr hd => (h.don r hr hd).symm
  wp := fun r j hr hd hj => by rw [bl_negA, h.wn r j hr hd hj, neg_zero]
  wn := fun r j hr hd hj => by rw [bl_negA, h.wp r j hr hd hj, neg_zero]
  all := h.all
  num := by rw [Nat.add_comm]; exact h.num
theorem Pdn.congr {n p m : Nat} {A B L P N : Mx Rat} {dn : Nat → Bool} (h : Pdn n p m A dn L P N) (e : ∀ i j, i < n → j < n → A i j = B i j) : Pdn n p m B dn L P N := by
  have e1 : ∀ x y, bl n B x y = bl n A x y := fun x y => (bl_congr e (fun _ _ => rfl) (fun _ _ => rfl)).symm
  exact ⟨fun i hi => by rw [e1]; exact h.pp i hi, fun i hi => by rw [e1]; exact h.nn i hi, fun i j hi hj hn => by rw [e1]; exact h.po i j hi hj hn, fun i j hi hj hn => by rw [e1]; exact h.no i j hi hj hn,
    fun i j hi hj => by rw [e1]; exact h.pn i j hi hj, h.don, fun i j hi hd hj => by rw [e1]; exact h.wp i j hi hd hj, fun i j hi hd hj => by rw [e1]; exact h.wn i j hi hd hj, h.all, h.num⟩

/-- The rows, so far as k, made orthogonal to row i. -/
def lk (dn : Nat → Bool) (L : Mx Rat) (f : Nat → Rat) (i k : Nat) : Mx Rat := fun r => if r < k ∧ dn r = false then fun j => L r j + f r * L i j else L r
theorem lk_hit {dn : Nat → Bool} {L : Mx Rat} {f : Nat → Rat} {i k r : Nat} (h : r < k) (h0 : dn r = false) : lk dn L f i k r = fun j => L r j + f r * L i j := if_pos ⟨h, h0⟩
theorem lk_done {dn : Nat → Bool} {L : Mx Rat} {f : Nat → Rat} {i k r : Nat} (h0 : dn r = true) : lk dn L f i k r = L r := if_neg fun h => by rw [h0] at h; cases h.2
theorem lk_ge {dn : Nat → Bool} {L : Mx Rat} {f : Nat → Rat} {i k r : Nat} (h0 : ¬ r < k) : lk dn L f i k r = L r := if_neg fun h => h0 h.1

theorem Pdn.pos {n p m i : Nat} {A L P N : Mx Rat} {dn : Nat → Bool} {f : Nat → Rat} (hA : ∀ i j, i < n → j < n → A i j = A j i) (h : Pdn n p m A dn L P N) (hi : i < n) (h0 : dn i = false) (hq : 0 < bl n A (L i) (L i))
    (hf : ∀ r, r < n → f r = -(bl n A (L r) (L i) / bl n A (L i) (L i))) : Pdn n (p + 1) m A (setb dn i) (lk (setb dn i) L f i n) (setr P p (L i)) N := by
  have hq0 : bl n A (L i) (L i) ≠ 0 := fun e => by rw [e] at hq; exact absurd hq (by decide)
  have hlt : ∀ {j : Nat}, j < p + 1 → j ≠ p → j < p := fun h1 h2 => by omega
  have hd : ∀ {r : Nat}, setb dn i r = false → r ≠ i ∧ dn r = false := fun {r} h1 => by
    by_cases e : r = i
    · subst e; rw [setb_at] at h1; cases h1
    · rw [setb_ne e] at h1; exact ⟨e, h1⟩
  have hL : ∀ r, r < n → dn r = false → r ≠ i → lk (setb dn i) L f i n r = fun j => L r j + f r * L i j := fun r hr h1 hne => lk_hit hr (by rw [setb_ne hne, h1])
  have hLi : lk (setb dn i) L f i n i = L i := lk_done setb_at
  refine ⟨fun j hj => ?_, h.nn, fun j k hj hk hne => ?_, h.no, fun j k hj hk => ?_, fun r hr h1 => ?_, fun r j hr h1 hj => ?_, fun r j hr h1 hj => ?_, fun x => ?_, ?_⟩
  · by_cases e1 : j = p
    · subst e1; rw [setr_at]; exact hq
    · rw [setr_ne _ _ e1]; exact h.pp j (hlt hj e1)
  · by_cases e1 : j = p
    · subst e1
      rw [setr_at, setr_ne _ _ (Ne.symm hne)]
      exact h.wp i k hi h0 (hlt hk (Ne.symm hne))
    · rw [setr_ne _ _ e1]
      by_cases e2 : k = p
      · subst e2
        rw [setr_at, bl_symm hA]; exact h.wp i j hi h0 (hlt hj e1)
      · rw [setr_ne _ _ e2]; exact h.po j k (hlt hj e1) (hlt hk e2) hne
  · by_cases e1 : j = p
    · subst e1; rw [setr_at]; exact h.wn i k hi h0 hk
    · rw [setr_ne _ _ e1]; exact h.pn j k (hlt hj e1) hk
  · rw [lk_done h1]
    by_cases e : r = i
    · exact .inl ⟨p, by omega, by rw [setr_at, e]⟩
    · rw [setb_ne e] at h1
      rcases h.don r hr h1 with ⟨j, hj, h2⟩ | h2
      · exact .inl ⟨j, by omega, by rw [setr_ne _ _ (by omega)]; exact h2⟩
      · exact .inr h2
  · obtain ⟨hne, h2⟩ := hd h1
    rw [hL r hr h2 hne, bl_comb_left]
    by_cases e1 : j = p
    · subst e1
      rw [setr_at, hf r hr, Rat.div_def, neg_mul, Rat.mul_assoc, Rat.inv_mul_cancel _ hq0, Rat.mul_one, add_neg_self]
    · rw [setr_ne _ _ e1, h.wp r j hr h2 (hlt hj e1), h.wp i j hi h0 (hlt hj e1), mul_zero, add_zero]
  · obtain ⟨hne, h2⟩ := hd h1
    rw [hL r hr h2 hne, bl_comb_left, h.wn r j hr h2 hj, h.wn i j hi h0 hj, mul_zero, add_zero]
  · refine (h.all x).trans fun r hr => ?_
    have h1 := Sp.row (n := n) (A := lk (setb dn i) L f i n) hr
    by_cases e : setb dn i r = true
    · rw [lk_done e] at h1; exact h1
    · have e2 := hd (Bool.eq_false_iff.2 e)
      rw [hL r hr e2.2 e2.1] at h1
      have h3 := Sp.row (n := n) (A := lk (setb dn i) L f i n) hi
      rw [hLi] at h3
      exact (h1.comb (-(f r)) h3).congr (fun _ _ _ _ => rfl) fun j _ => by
        show L r j + f r * L i j + -(f r) * L i j = L r j
        rw [neg_mul, add_assoc, add_neg_self, add_zero]
  · rw [cnt_set h0 hi, ← h.num]; omega

theorem Pdn.negv {n p m i : Nat} {A L P N : Mx Rat} {dn : Nat → Bool} {f : Nat → Rat} (hA : ∀ i j, i < n → j < n → A i j = A j i) (h : Pdn n p m A dn L P N) (hi : i < n) (h0 : dn i = false) (hq : bl n A (L i) (L i) < 0)
    (hf : ∀ r, r < n → f r = -(bl n A (L r) (L i) / bl n A (L i) (L i))) : Pdn n p (m + 1) A (setb dn i) (lk (setb dn i) L f i n) P (setr N m (L i)) := by
  have hB : ∀ i j, i < n → j < n → (fun i j => -A i j) i j = (fun i j => -A i j) j i := fun i j hi hj => by show -A i j = -A j i; rw [hA i j hi hj]
  refine (Pdn.neg hB ((Pdn.neg hA h).pos (f := f) hB hi h0 (by rw [bl_negA]; grind) (fun r hr => ?_))).congr fun i j _ _ => neg_neg _
  rw [bl_negA, bl_negA, hf r hr]
  have hq0 : bl n A (L i) (L i) ≠ 0 := fun e => by rw [e] at hq; exact absurd hq (by decide)
  have hq1 : -bl n A (L i) (L i) ≠ 0 := fun e => hq0 (by rw [← neg_neg (bl n A (L i) (L i)), e, neg_zero])
  have hi : (-bl n A (L i) (L i))⁻¹ = -(bl n A (L i) (L i))⁻¹ := mul_left_can hq1 (by rw [mul_inv _ hq1, neg_mul, mul_neg, neg_neg, mul_inv _ hq0])
  rw [Rat.div_def, Rat.div_def, hi, neg_mul (bl n A (L r) (L i)), mul_neg, neg_neg]

/-- Row j is added to row i. -/
theorem Pdn.mix {n p m i j : Nat} {A L P N : Mx Rat} {dn : Nat → Bool} (h : Pdn n p m A dn L P N) (hi : i < n) (hj : j < n) (hne : j ≠ i) (h1 : dn i = false) (h2 : dn j = false) :
    Pdn n p m A dn (setr L i (fun c => L i c + (1 : Rat) * L j c)) P N := by
  refine ⟨h.pp, h.nn, h.po, h.no, h.pn, fun r hr hd => ?_, fun r k hr hd hk => ?_, fun r k hr hd hk => ?_, fun x => (h.all x).trans fun r hr => ?_, h.num⟩
  · rw [setr_ne _ _ (fun e => by subst e; rw [h1] at hd; cases hd)]; exact h.don r hr hd
  · by_cases e : r = i
    · subst e; rw [setr_at, bl_comb_left, h.wp r k hr hd hk, h.wp j k hj h2 hk, mul_zero, add_zero]
    · rw [setr_ne _ _ e]; exact h.wp r k hr hd hk
  · by_cases e : r = i
    · subst e; rw [setr_at, bl_comb_left, h.wn r k hr hd hk, h.wn j k hj h2 hk, mul_zero, add_zero]
    · rw [setr_ne _ _ e]; exact h.wn r k hr hd hk
  · have h3 := Sp.row (n := n) (A := setr L i (fun c => L i c + (1 : Rat) * L j c)) hr
    by_cases e : r = i
    · subst e
      have h4 := Sp.row (n := n) (A := setr L r (fun c => L r c + (1 : Rat) * L j c)) hj
      rw [setr_at] at h3
      rw [setr_ne _ _ hne] at h4
      exact (h3.comb (-1) h4).congr (fun _ _ _ _ => rfl) fun c _ => by
        show L r c + (1 : Rat) * L j c + (-1 : Rat) * L j c = L r c
        grind
    · rwa [setr_ne _ _ e] at h3

/-- The numbers B(L r, L c). -/
def Gram (n : Nat) (A L G : Mx Rat) : Prop := ∀ r c, r < n → c < n → G r c = bl n A (L r) (L c)
theorem Gram.start {n : Nat} {A : Mx Rat} : Gram n A idm A := fun _ _ hr hc => (bl_unit hr hc).symm

/-- A multiple of row j is added to row i, then a multiple of column j to column i. -/
def rop (G : Mx Rat) (i j : Nat) (t : Rat) : Mx Rat := fun r c => if r = i then G i c + t * G j c else G r c
def cop (G : Mx Rat) (i j : Nat) (t : Rat) : Mx Rat := fun r c => if c = i then G r i + t * G r j else G r c
theorem Gram.op {n i j : Nat} {A L G : Mx Rat} {t : Rat} (h : Gram n A L G) (hi : i < n) (hj : j < n) (hne : j ≠ i) : Gram n A (setr L i (fun c => L i c + t * L j c)) (cop (rop G i j t) i j t) := by
  have h1 : ∀ r c, r < n → c < n → rop G i j t r c = bl n A (setr L i (fun c => L i c + t * L j c) r) (L c) := fun r c hr hc => by
    unfold rop
    by_cases e : r = i
    · subst e; rw [if_pos rfl, setr_at, bl_comb_left, h r c hr hc, h j c hj hc]
    · rw [if_neg e, setr_ne _ _ e, h r c hr hc]
  intro r c hr hc
  unfold cop
  by_cases e : c = i
  · subst e; rw [if_pos rfl, setr_at, bl_comb_right, h1 r c hr hc, h1 r j hr hj]
  · rw [if_neg e, setr_ne _ _ e, h1 r c hr hc]
theorem Gram.congr {n : Nat} {A L L' G : Mx Rat} (h : Gram n A L G) (e : ∀ r, r < n → ∀ j, j < n → L r j = L' r j) : Gram n A L' G := fun r c hr hc => by
  rw [h r c hr hc]; exact bl_congr (fun _ _ _ _ => rfl) (e r hr) (e c hc)

theorem lk_other {i k r : Nat} {dn : Nat → Bool} {L : Mx Rat} {f : Nat → Rat} (e : r ≠ k) : lk dn L f i k r = lk dn L f i (k + 1) r := by
  by_cases e1 : dn r = false
  · by_cases e2 : r < k
    · rw [lk_hit e2 e1, lk_hit (by omega) e1]
    · rw [lk_ge e2, lk_ge (by omega)]
  · rw [lk_done (by simpa using e1), lk_done (by simpa using e1)]
theorem lk_next {n i k : Nat} {dn : Nat → Bool} {L : Mx Rat} {f : Nat → Rat} (h : dn k = false) (hi : dn i = true) : ∀ r, r < n → ∀ j, j < n → setr (lk dn L f i k) k (fun c => lk dn L f i k k c + f k * lk dn L f i k i c) r j = lk dn L f i (k + 1) r j := fun r _ j _ => by
  by_cases e : r = k
  · subst e; rw [setr_at, lk_ge (Nat.lt_irrefl r), lk_done hi, lk_hit (by omega) h]
  · rw [setr_ne _ _ e]
    rw [lk_other e]
theorem lk_pass {n i k : Nat} {dn : Nat → Bool} {L : Mx Rat} {f : Nat → Rat} (h : dn k = true ∨ f k = 0) : ∀ r, r < n → ∀ j, j < n → lk dn L f i k r j = lk dn L f i (k + 1) r j := fun r _ j _ => by
  by_cases e : r = k
  · subst e
    rw [lk_ge (Nat.lt_irrefl r)]
    rcases h with h | h
    · rw [lk_done h]
    · by_cases e2 : dn r = false
      · rw [lk_hit (by omega) e2]
        show L r j = L r j + f r * L i j
        rw [h, zero_mul, add_zero]
      · rw [lk_done (by simpa using e2)]
  · rw [lk_other e]

/-- The values on the way. -/
theorem lk_vals {n i k r c : Nat} {A L : Mx Rat} {dn : Nat → Bool} {f : Nat → Rat} (hq : bl n A (L i) (L i) ≠ 0)
    (hf : ∀ r, r < n → f r = -(bl n A (L r) (L i) / bl n A (L i) (L i))) (hr : r < n) : bl n A (lk dn L f i k r) (lk dn L f i k c) = bl n A (L r) (L c) ∨
      bl n A (lk dn L f i k r) (lk dn L f i k c) = bl n A (L r) (L c) + f r * bl n A (L i) (L c) ∨ bl n A (lk dn L f i k r) (lk dn L f i k c) = bl n A (L r) (L c) + f c * bl n A (L r) (L i) := by
  have hz : ∀ r, r < n → bl n A (L r) (L i) + f r * bl n A (L i) (L i) = 0 := fun r hr => by
    rw [hf r hr, Rat.div_def, neg_mul, Rat.mul_assoc, Rat.inv_mul_cancel _ hq, Rat.mul_one, add_neg_self]
  unfold lk
  by_cases e1 : r < k ∧ dn r = false
  · rw [if_pos e1, bl_comb_left]
    by_cases e2 : c < k ∧ dn c = false
    · rw [if_pos e2, bl_comb_right, bl_comb_right]
      refine .inr (.inl ?_)
      have := hz r hr
      have e3 : f r * (f c * bl n A (L i) (L i)) = f c * (f r * bl n A (L i) (L i)) := mul_left_comm _ _ _
      rw [mul_add, e3]
      have e4 : f c * (bl n A (L r) (L i) + f r * bl n A (L i) (L i)) = 0 := by rw [this, mul_zero]
      rw [mul_add] at e4
      grind
    · rw [if_neg e2]; exact .inr (.inl rfl)
  · rw [if_neg e1]
    by_cases e2 : c < k ∧ dn c = false
    · rw [if_pos e2, bl_comb_right]; exact .inr (.inr rfl)
    · rw [if_neg e2]; exact .inl rfl

end Go.La
