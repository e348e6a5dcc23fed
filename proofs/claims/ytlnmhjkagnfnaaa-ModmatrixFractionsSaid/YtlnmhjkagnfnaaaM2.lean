/- Texts of this seat's own, merged: each begins with its own remark. -/
import Derived.Test.YtlnmhjkagnfnaaaProg
import Derived.Test.YtlnmhjkagnfnaaaM1
import Derived.KernelRfl
import Derived.Laws.IdiomStrings
import Derived.WideShapes
/- The types of this seat's program, as the rules of the walk ask them. -/
namespace Go.Proofs.Ytlnmhjkagnfnaaa
open Go.Hp

def tys : TT := [
  (2, ⟨.int .i64, 1, 8, .int .i64 0⟩),
  (3, ⟨.int .i64, 1, 8, .int .i64 0⟩),
  (4, ⟨.bool, 1, 1, .bool false⟩),
  (5, ⟨.int .u8, 1, 1, .int .u8 0⟩),
  (9, ⟨.str, 1, 16, .string ⟨#[]⟩⟩),
  (12, ⟨.int .u64, 1, 8, .int .u64 0⟩),
  (21, ⟨.int .i32, 1, 4, .int .i32 0⟩),
  (22, ⟨.slice 53, 1, 24, .slice none 0 0⟩),
  (23, ⟨.struct [(4, 0), (22, 1)], 2, 32, .agg #[.bool false, .slice none 0 0]⟩),
  (24, ⟨.struct [(4, 0), (22, 1)], 2, 32, .agg #[.bool false, .slice none 0 0]⟩),
  (25, ⟨.struct [(24, 0), (24, 2)], 4, 64, .agg #[.bool false, .slice none 0 0, .bool false, .slice none 0 0]⟩),
  (26, ⟨.struct [(24, 0), (24, 2)], 4, 64, .agg #[.bool false, .slice none 0 0, .bool false, .slice none 0 0]⟩),
  (34, ⟨.int .i64, 1, 8, .int .i64 0⟩),
  (37, ⟨.slice 24, 1, 24, .slice none 0 0⟩),
  (42, ⟨.slice 3, 1, 24, .slice none 0 0⟩),
  (43, ⟨.struct [(3, 0), (3, 1), (42, 2)], 3, 40, .agg #[.int .i64 0, .int .i64 0, .slice none 0 0]⟩),
  (44, ⟨.struct [(3, 0), (3, 1), (42, 2)], 3, 40, .agg #[.int .i64 0, .int .i64 0, .slice none 0 0]⟩),
  (51, ⟨.int .u64, 1, 8, .int .u64 0⟩),
  (53, ⟨.int .u32, 1, 4, .int .u32 0⟩),
  (54, ⟨.int .u64, 1, 8, .int .u64 0⟩),
  (69, ⟨.slice 42, 1, 24, .slice none 0 0⟩)]

theorem sym : Sym Try.prog tys where
  ok := by
    intro e he
    simp only [tys, List.mem_cons, List.not_mem_nil, or_false] at he
    rcases he with rfl | rfl | rfl | rfl | rfl | rfl | rfl | rfl | rfl | rfl | rfl | rfl | rfl | rfl | rfl | rfl | rfl | rfl | rfl | rfl | rfl <;> exact ⟨by kernel_rfl, by kernel_rfl⟩
  mixed := by kernel_rfl

end Go.Proofs.Ytlnmhjkagnfnaaa

/- Lists of digits to the base 2^32 and the numbers that they stand for. No program; no condition. -/
namespace Go.Hp

def val : List Nat → Nat
  | [] => 0
  | d :: r => d + 4294967296 * val r

abbrev Bd (l : List Nat) : Prop := ∀ d ∈ l, d < 4294967296

theorem val_append (a b : List Nat) : val (a ++ b) = val a + 4294967296 ^ a.length * val b := by
  induction a with
  | nil => simp [val]
  | cons d r ih =>
    simp only [List.cons_append, val, ih, List.length_cons, Nat.pow_succ]
    grind
theorem val_lt {l : List Nat} (h : Bd l) : val l < 4294967296 ^ l.length := by
  induction l with
  | nil => simp [val]
  | cons d r ih =>
    have h1 := h d (List.mem_cons_self ..)
    have h2 := ih fun x hx => h x (List.mem_cons_of_mem _ hx)
    simp only [val, List.length_cons, Nat.pow_succ]
    generalize 4294967296 ^ r.length = p at *
    omega
theorem val_replicate (n : Nat) : val (List.replicate n 0) = 0 := by
  induction n with
  | zero => rfl
  | succ n ih => simp [List.replicate_succ, val, ih]
theorem val_single (d : Nat) : val [d] = d := by simp [val]
theorem val_snoc (a : List Nat) (d : Nat) : val (a ++ [d]) = val a + 4294967296 ^ a.length * d := by rw [val_append, val_single]
theorem val_take_succ {l : List Nat} {k d : Nat} (h : l[k]? = some d) : val (l.take (k + 1)) = val (l.take k) + 4294967296 ^ k * d := by
  obtain ⟨hl, he⟩ := List.getElem?_eq_some_iff.1 h
  rw [List.take_succ_eq_append_getElem hl, he, val_snoc, List.length_take, Nat.min_eq_left (by omega)]
theorem val_split (l : List Nat) (k : Nat) (h : k ≤ l.length) : val l = val (l.take k) + 4294967296 ^ k * val (l.drop k) := by
  have := val_append (l.take k) (l.drop k)
  rw [List.take_append_drop, List.length_take, Nat.min_eq_left h] at this
  exact this

/-! ### no leading zeros -/
def tl (l : List Nat) : List Nat := (l.reverse.dropWhile (· == 0)).reverse

theorem tl_take_succ {l : List Nat} {k : Nat} (h : l[k]? = some 0) : tl (l.take (k + 1)) = tl (l.take k) := by
  obtain ⟨hl, he⟩ := List.getElem?_eq_some_iff.1 h
  rw [List.take_succ_eq_append_getElem hl, he]
  simp [tl]
theorem tl_take_stop {l : List Nat} {k d : Nat} (h : l[k]? = some d) (hd : d ≠ 0) : tl (l.take (k + 1)) = l.take (k + 1) := by
  obtain ⟨hl, he⟩ := List.getElem?_eq_some_iff.1 h
  rw [List.take_succ_eq_append_getElem hl, he]
  simp [tl, hd]
theorem tl_snoc_zero (l : List Nat) : tl (l ++ [0]) = tl l := by simp [tl]
theorem tl_snoc {d : Nat} (l : List Nat) (hd : d ≠ 0) : tl (l ++ [d]) = l ++ [d] := by simp [tl, hd]

theorem snoc_cases (l : List Nat) : l = [] ∨ ∃ r d, l = r ++ [d] := by
  rcases List.eq_nil_or_concat l with h | ⟨r, d, h⟩
  · exact .inl h
  · exact .inr ⟨r, d, by simpa using h⟩

theorem tl_split (l : List Nat) : ∃ k, l = tl l ++ List.replicate k 0 := by
  have : ∀ n (l : List Nat), l.length = n → ∃ k, l = tl l ++ List.replicate k 0 := by
    intro n
    induction n with
    | zero => intro l hl; exact ⟨0, by rw [List.eq_nil_of_length_eq_zero hl]; rfl⟩
    | succ n ih =>
      intro l hl
      rcases snoc_cases l with rfl | ⟨r, d, rfl⟩
      · cases hl
      · by_cases hd : d = 0
        · subst hd
          obtain ⟨k, hk⟩ := ih r (by simpa using hl)
          exact ⟨k + 1, by rw [tl_snoc_zero, List.replicate_succ', ← List.append_assoc, ← hk]⟩
        · exact ⟨0, by rw [tl_snoc r hd]; simp⟩
  exact this _ l rfl
theorem val_tl (l : List Nat) : val (tl l) = val l := by
  obtain ⟨k, hk⟩ := tl_split l
  have := congrArg val hk
  rw [val_append, val_replicate, Nat.mul_zero, Nat.add_zero] at this
  exact this.symm
theorem tl_take (l : List Nat) : tl l = l.take (tl l).length := by
  obtain ⟨k, hk⟩ := tl_split l
  have := congrArg (List.take (tl l).length) hk
  rw [List.take_left] at this
  exact this.symm
theorem tl_length_le (l : List Nat) : (tl l).length ≤ l.length := by
  have := congrArg List.length (tl_take l)
  rw [List.length_take] at this
  omega
theorem tl_bd {l : List Nat} (h : Bd l) : Bd (tl l) := by
  rw [tl_take]; exact fun d hd => h d (List.mem_of_mem_take hd)
theorem tl_tl (l : List Nat) : tl (tl l) = tl l := by
  have : ∀ n (l : List Nat), l.length = n → tl (tl l) = tl l := by
    intro n
    induction n with
    | zero => intro l hl; rw [List.eq_nil_of_length_eq_zero hl]; rfl
    | succ n ih =>
      intro l hl
      rcases snoc_cases l with rfl | ⟨r, d, rfl⟩
      · rfl
      · by_cases hd : d = 0
        · subst hd; rw [tl_snoc_zero]; exact ih r (by simpa using hl)
        · rw [tl_snoc r hd, tl_snoc r hd]
  exact this _ l rfl

/-- Digits without leading zeros. -/
structure Cn (l : List Nat) : Prop where
  bd : Bd l
  tr : tl l = l
theorem cn_tl {l : List Nat} (h : Bd l) : Cn (tl l) := ⟨tl_bd h, tl_tl l⟩
theorem Cn.nil : Cn [] := ⟨fun _ h => (by cases h), rfl⟩

theorem Cn.last {l : List Nat} {d : Nat} (h : Cn (l ++ [d])) : d ≠ 0 := by
  intro e
  subst e
  have h1 := h.tr
  rw [tl_snoc_zero] at h1
  have := tl_length_le l
  rw [h1] at this
  simp at this
  omega
/-- The number of digits is that of the number. -/
theorem Cn.ge {l : List Nat} (h : Cn l) (hne : l ≠ []) : 4294967296 ^ (l.length - 1) ≤ val l := by
  rcases snoc_cases l with rfl | ⟨r, d, rfl⟩
  · exact absurd rfl hne
  · have hd := h.last
    rw [val_snoc]
    simp only [List.length_append, List.length_singleton, Nat.add_sub_cancel]
    have : 4294967296 ^ r.length * 1 ≤ 4294967296 ^ r.length * d := Nat.mul_le_mul_left _ (by omega)
    omega
theorem Cn.len_le {a b : List Nat} (ha : Cn a) (hb : Bd b) (h : val a ≤ val b) : a.length ≤ b.length := by
  rcases Nat.lt_or_ge b.length a.length with hlt | hge
  · exfalso
    have h1 := ha.ge (fun e => by subst e; simp at hlt)
    have h2 := val_lt hb
    have h3 : 4294967296 ^ b.length ≤ 4294967296 ^ (a.length - 1) := Nat.pow_le_pow_right (by omega) (by omega)
    omega
  · exact hge
theorem val_inj {a b : List Nat} (ha : Bd a) (hb : Bd b) (hl : a.length = b.length) (h : val a = val b) : a = b := by
  induction a generalizing b with
  | nil => exact (List.eq_nil_of_length_eq_zero hl.symm).symm
  | cons d r ih =>
    cases b with
    | nil => cases hl
    | cons e s =>
      have h1 := ha d (List.mem_cons_self ..)
      have h2 := hb e (List.mem_cons_self ..)
      simp only [val] at h
      have h3 : d = e := by omega
      have h4 : val r = val s := by omega
      rw [h3, ih (fun x hx => ha x (List.mem_cons_of_mem _ hx)) (fun x hx => hb x (List.mem_cons_of_mem _ hx)) (by simpa using hl) h4]
theorem Cn.inj {a b : List Nat} (ha : Cn a) (hb : Cn b) (h : val a = val b) : a = b :=
  val_inj ha.bd hb.bd (Nat.le_antisymm (ha.len_le hb.bd (Nat.le_of_eq h)) (hb.len_le ha.bd (Nat.le_of_eq h.symm))) h
theorem Cn.zero {a : List Nat} (ha : Cn a) : val a = 0 ↔ a = [] :=
  ⟨fun h => ha.inj Cn.nil h, fun h => by rw [h]; rfl⟩
theorem set_next {r : List Nat} {m x : Nat} : (r ++ List.replicate (m + 1) 0).set r.length x = (r ++ [x]) ++ List.replicate m 0 := by
  rw [List.set_append_right _ _ (Nat.le_refl _), Nat.sub_self, List.replicate_succ, List.set_cons_zero, List.append_assoc]
  rfl
theorem bd_snoc {l : List Nat} {d : Nat} (h : Bd l) (hd : d < 4294967296) : Bd (l ++ [d]) := by
  intro x hx
  rcases List.mem_append.1 hx with hx | hx
  · exact h x hx
  · simp at hx; omega
theorem bd_take {l : List Nat} (h : Bd l) (k : Nat) : Bd (l.take k) := fun d hd => h d (List.mem_of_mem_take hd)
theorem bd_drop {l : List Nat} (h : Bd l) (k : Nat) : Bd (l.drop k) := fun d hd => h d (List.mem_of_mem_drop hd)
theorem bd_get {l : List Nat} (h : Bd l) {k d : Nat} (hk : l[k]? = some d) : d < 4294967296 := h d (List.mem_of_getElem? hk)

theorem set_at {r : List Nat} {n i x : Nat} (hr : r.length = i) (hi : i < n) : (r ++ List.replicate (n - i) 0).set i x = (r ++ [x]) ++ List.replicate (n - (i + 1)) 0 := by
  have e : n - i = (n - (i + 1)) + 1 := by omega
  rw [e, ← hr, set_next]
theorem take_all {l : List Nat} {n : Nat} (h : l.length ≤ n) : l.take n = l := List.take_of_length_le h
theorem take_more {l : List Nat} {i : Nat} (h : l.length ≤ i) : val (l.take (i + 1)) = val (l.take i) + 4294967296 ^ i * 0 := by
  rw [take_all (by omega), take_all h]; simp
theorem cn_one {n : Nat} (h : n < 4294967296) (h0 : n ≠ 0) : Cn [n] := by
  refine ⟨fun d hd => ?_, ?_⟩
  · simp only [List.mem_singleton] at hd; omega
  · simp [tl, h0]
theorem cn_two {m n : Nat} (hm : m < 4294967296) (h : n < 4294967296) (h0 : n ≠ 0) : Cn [m, n] := by
  refine ⟨fun d hd => ?_, ?_⟩
  · simp only [List.mem_cons, List.not_mem_nil, or_false] at hd; omega
  · simp [tl, h0]
theorem val_two (m n : Nat) : val [m, n] = n * 4294967296 + m := by simp only [val]; omega
/-- Lists of digits without leading zeros are compared by their lengths first. -/
theorem Cn.lt_of_len {a b : List Nat} (ha : Bd a) (hb : Cn b) (h : a.length < b.length) : val a < val b := by
  have h1 := val_lt ha
  have h2 := hb.ge (fun e => by subst e; simp at h)
  have h3 : 4294967296 ^ a.length ≤ 4294967296 ^ (b.length - 1) := Nat.pow_le_pow_right (by omega) (by omega)
  omega
/-- .. then from the first digit on. -/
theorem lt_of_digit {a b : List Nat} (ha : Bd a) (_hb : Bd b) {k x y : Nat} (hx : a[k]? = some x) (hy : b[k]? = some y) (hl : a.length = b.length) (hd : a.drop (k + 1) = b.drop (k + 1)) (h : x < y) : val a < val b := by
  have h1 := (List.getElem?_eq_some_iff.1 hx).1
  have e1 := val_split a (k + 1) (by omega)
  have e2 := val_split b (k + 1) (by omega)
  rw [val_take_succ hx] at e1
  rw [val_take_succ hy] at e2
  rw [hd] at e1
  have h2 := val_lt (bd_take ha k)
  rw [List.length_take, Nat.min_eq_left (by omega)] at h2
  have h3 : 4294967296 ^ k * (x + 1) ≤ 4294967296 ^ k * y := Nat.mul_le_mul_left _ h
  rw [Nat.mul_add] at h3
  omega
theorem drop_step {a b : List Nat} {k x : Nat} (hx : a[k]? = some x) (hy : b[k]? = some x) (hd : a.drop (k + 1) = b.drop (k + 1)) : a.drop k = b.drop k := by
  obtain ⟨h1, e1⟩ := List.getElem?_eq_some_iff.1 hx
  obtain ⟨h2, e2⟩ := List.getElem?_eq_some_iff.1 hy
  rw [List.drop_eq_getElem_cons h1, List.drop_eq_getElem_cons h2, e1, e2, hd]

end Go.Hp

/- Digits in memory, and integers as the program's structs. -/
namespace Go.Proofs.Ytlnmhjkagnfnaaa
open Go.Hp

def dg (d : Nat) : Value := .int .u32 (d : Int)
abbrev TU32 : Nat := 53

/-- A slice of digits that may be read. -/
structure Dig (U : UH) (M : MH) (p : Option Addr) (n c : Nat) (l : List Nat) : Prop where
  len : l.length = n
  cap : n ≤ c
  capm : c ≤ 9223372036854775807
  bd : Bd l
  cell : ∀ (k d : Nat), l[k]? = some d → p.isSome = true ∧ ∀ (G : World) (w : World), Mem G U M w → w.cell? (elt p k) = some (.int .u32 (d : Int))

theorem Dig.get {U : UH} {M : MH} {p : Option Addr} {n c : Nat} {l : List Nat} (h : Dig U M p n c l) {k : Nat} (hk : k < n) :
    ∃ d, l[k]? = some d ∧ d < 4294967296 ∧ p.isSome = true ∧ ∀ (G : World) (w : World), Mem G U M w → w.cell? (elt p k) = some (.int .u32 (d : Int)) := by
  have h1 : k < l.length := by rw [h.len]; exact hk
  have h2 := List.getElem?_eq_getElem h1
  exact ⟨_, h2, h.bd _ (List.mem_of_getElem? h2), h.cell _ _ h2⟩

theorem Dig.up {U U' : UH} {M M' : MH} {p : Option Addr} {n c : Nat} {l : List Nat} (h : Dig U M p n c l) (hU : ULe U U') (hM : M.Sublist M') : Dig U' M' p n c l :=
  ⟨h.len, h.cap, h.capm, h.bd, fun k d hk => ⟨(h.cell k d hk).1, fun G w hw => (h.cell k d hk).2 G w (hw.anti hU hM)⟩⟩
theorem Dig.app {U : UH} {M : MH} {p : Option Addr} {n c : Nat} {l : List Nat} (h : Dig U M p n c l) (M2 : MH) : Dig U (M2 ++ M) p n c l :=
  h.up (ULe.refl U) (List.sublist_append_right ..)
theorem Dig.take {U : UH} {M : MH} {p : Option Addr} {n c : Nat} {l : List Nat} (h : Dig U M p n c l) {k : Nat} (hk : k ≤ n) : Dig U M p k c (l.take k) :=
  ⟨by rw [List.length_take, h.len]; omega, Nat.le_trans hk h.cap, h.capm, bd_take h.bd k, fun j d hj => by
    rw [List.getElem?_take] at hj
    split at hj
    · exact h.cell j d hj
    · cases hj⟩
theorem Dig.tl {U : UH} {M : MH} {p : Option Addr} {n c : Nat} {l : List Nat} (h : Dig U M p n c l) : Dig U M p (Hp.tl l).length c (Hp.tl l) := by
  have h1 := h.take (k := (Hp.tl l).length) (by rw [← h.len]; exact tl_length_le l)
  rwa [← tl_take] at h1
theorem Dig.nil {U : UH} {M : MH} : Dig U M none 0 0 [] := ⟨rfl, Nat.le_refl _, by omega, fun _ h => (by cases h), fun k d h => (by simp at h)⟩

theorem flat_dg (r : List Nat) : (r.map dg).flatMap (fun v => v.cells.toList) = r.map dg := by
  induction r with
  | nil => rfl
  | cons d r ih => rw [List.map_cons, List.flatMap_cons, ih]; rfl

theorem dg_size (r : List Nat) : ∀ u ∈ r.map dg, u.cells.toList.length = 1 := by
  intro u hu
  obtain ⟨d, _, rfl⟩ := List.mem_map.1 hu
  rfl

/-- A slice of digits that the call has made: nil, or the head of an owned row (whatever lies in its spare room). -/
inductive Own : MH → Option Addr → Nat → Nat → List Nat → Prop where
  | nil : Own [] none 0 0 []
  | arr {b n c : Nat} {r : List Nat} {t : List Value} (hn : r.length = n) (hc : n + t.length = c) (hm : c ≤ 9223372036854775807) (hb : Bd r) (ht : ∀ v ∈ t, v.cells.toList.length = 1) : Own [(b, .arr (r.map dg ++ t), TU32)] (some ⟨b, 0, none⟩) n c r

theorem Own.row {b n c : Nat} {r : List Nat} (hn : n ≤ c) (hc : r.length = c) (hm : c ≤ 9223372036854775807) (hb : Bd r) : Own [(b, .arr (r.map dg), TU32)] (some ⟨b, 0, none⟩) n c (r.take n) := by
  have h := Own.arr (b := b) (n := n) (c := c) (r := r.take n) (t := (r.drop n).map dg) (by rw [List.length_take, hc]; omega) (by rw [List.length_map, List.length_drop, hc]; omega) hm (bd_take hb n) (dg_size _)
  rwa [← List.map_append, List.take_append_drop] at h

theorem cell_row {r : List Nat} {t : List Value} {k d : Nat} (hk : r[k]? = some d) : (Blk.arr (r.map dg ++ t)).cells[k]? = some (.int .u32 (d : Int)) := by
  have h1 : k < (r.map dg).length := by rw [List.length_map]; exact (List.getElem?_eq_some_iff.1 hk).1
  simp only [Blk.cells, List.getElem?_toArray, List.flatMap_append]
  rw [flat_dg, List.getElem?_append_left h1, List.getElem?_map, hk]; rfl

theorem dig_row {U : UH} {M : MH} {b n c i : Nat} {r : List Nat} {t : List Value} (hM : M[i]? = some (b, .arr (r.map dg ++ t), TU32)) (hn : r.length = n) (hc : n + t.length = c) (hm : c ≤ 9223372036854775807) (hb : Bd r) : Dig U M (some ⟨b, 0, none⟩) n c r := by
  refine ⟨hn, by omega, hm, hb, fun k d hk => ⟨rfl, fun G w hw => ?_⟩⟩
  simp only [elt, Option.getD_some, add_lit, Nat.zero_add]
  rw [hw.cellM hM]
  exact cell_row hk

theorem Own.dig {U : UH} {M D : MH} {p : Option Addr} {n c : Nat} {l : List Nat} (h : Own D p n c l) : Dig U (D ++ M) p n c l := by
  cases h with
  | nil => exact Dig.nil
  | arr hn hc hm hb ht => exact dig_row (i := 0) rfl hn hc hm hb

theorem Own.len {D : MH} {p : Option Addr} {n c : Nat} {l : List Nat} (h : Own D p n c l) : l.length = n ∧ n ≤ c ∧ c ≤ 9223372036854775807 := by
  cases h with
  | nil => exact ⟨rfl, Nat.le_refl _, by omega⟩
  | arr hn hc hm hb ht => exact ⟨hn, by omega, hm⟩

theorem Own.take {D : MH} {p : Option Addr} {n c : Nat} {l : List Nat} (h : Own D p n c l) {k : Nat} (hk : k ≤ n) : Own D p k c (l.take k) := by
  cases h with
  | nil =>
    have : k = 0 := by omega
    subst this; exact Own.nil
  | @arr b n c r t hn hc hm hb ht =>
    have h := Own.arr (b := b) (n := k) (c := c) (r := l.take k) (t := (l.drop k).map dg ++ t) (by rw [List.length_take]; omega) (by rw [List.length_append, List.length_map, List.length_drop]; omega) hm (bd_take hb k) (fun v hv => by
      rcases List.mem_append.1 hv with hv | hv
      · exact dg_size _ v hv
      · exact ht v hv)
    rwa [← List.append_assoc, ← List.map_append, List.take_append_drop] at h
theorem Own.tl {D : MH} {p : Option Addr} {n c : Nat} {l : List Nat} (h : Own D p n c l) : Own D p (Hp.tl l).length c (Hp.tl l) := by
  have h1 := h.take (k := (Hp.tl l).length) (by rw [← h.len.1]; exact tl_length_le l)
  rwa [← tl_take] at h1

/-- What is owned is settled: it may be read ever after. -/
theorem Own.settle {G : World} {U : UH} {M D : MH} {p : Option Addr} {n c : Nat} {l : List Nat} {w : World} (h : Own D p n c l) (hw : Mem G U (D ++ M) w) : ∃ U', ULe U U' ∧ Mem G U' M w ∧ Dig U' [] p n c l := by
  cases h with
  | nil => exact ⟨U, ULe.refl U, hw, Dig.nil⟩
  | @arr b n c r t hn hc hm hb ht =>
    obtain ⟨h1, h2⟩ := hw.settle
    refine ⟨_, h1, h2, hn, by omega, hm, hb, fun k d hk => ⟨rfl, fun G w hw => hw.cellU ?_⟩⟩
    simp only [elt, Option.getD_some, add_lit, Nat.zero_add]
    rw [UH.cell_upd]
    exact cell_row hk

/-- What append has made of digits. -/
theorem Own.of_row {D : MH} {p : Option Addr} {n c : Nat} {l : List Nat} (h : Row TU32 D p n c (l.map dg)) (hr : ∀ k, k ∈ D → ∀ r, k.2.1 = .arr r → ∀ v ∈ r, v.cells.toList.length = 1) (hb : Bd l) : Own D p n c l := by
  generalize hv : l.map dg = vl at h
  cases h with
  | nil =>
    have : l = [] := by simpa using hv
    subst this; exact Own.nil
  | @row b n c r hn hc hm =>
    have h := Own.arr (b := b) (n := n) (c := c) (r := l) (t := r.drop n) (by
      have := congrArg List.length hv
      rw [List.length_map, List.length_take, hc] at this; omega) (by rw [List.length_drop, hc]; omega) hm hb (fun v hv => hr _ (List.mem_singleton.2 rfl) r rfl v (List.mem_of_mem_drop hv))
    rwa [hv, List.take_append_drop] at h

theorem Dig.news {U : UH} {M : MH} {p : Option Addr} {n c : Nat} {l : List Nat} (h : Dig U M p n c l) : n ≠ 0 → ∃ a, p = some a ∧ ∀ {G : World} (w : World), Mem G U M w → ∀ j u, (flat (l.map dg))[j]? = some u → w.cell? (a.add j) = some u := by
  intro hn
  obtain ⟨d, hd, _, hp, _⟩ := h.get (k := 0) (by omega)
  obtain ⟨a, rfl⟩ := Option.isSome_iff_exists.1 hp
  refine ⟨a, rfl, fun {G} w hw j u hu => ?_⟩
  unfold flat at hu
  rw [flat_dg, List.getElem?_map] at hu
  cases hj : l[j]? with
  | none => rw [hj] at hu; cases hu
  | some d =>
    rw [hj] at hu
    have := (h.cell j d hj).2 G w hw
    simp only [Option.map_some, Option.some.injEq] at hu
    subst hu
    exact this
theorem dg_one (l : List Nat) : ∀ u ∈ flat (l.map dg), u.oneCell' = true := by
  intro u hu
  unfold flat at hu
  rw [flat_dg] at hu
  obtain ⟨d, _, rfl⟩ := List.mem_map.1 hu
  rfl

/-! ### integers -/
structure IV where
  neg : Bool
  p : Option Addr
  n : Nat
  c : Nat
def IV.v (x : IV) : Value := .agg #[.bool x.neg, .slice x.p x.n x.c]

def sg (neg : Bool) (m : Nat) : Int := if neg then -(m : Int) else (m : Int)

/-- The digits that an integer has. -/
def IV.dig (x : IV) (U : UH) (M : MH) (l : List Nat) : Prop := Dig U M x.p x.n x.c l
/-- x stands for z, with whatever leading zeros. -/
def IV.rep (x : IV) (U : UH) (M : MH) (z : Int) : Prop := ∃ l, Dig U M x.p x.n x.c l ∧ z = sg x.neg (val l)
/-- x stands for z and is normalized. -/
def IV.nrm (x : IV) (U : UH) (M : MH) (z : Int) : Prop := ∃ l, Dig U M x.p x.n x.c l ∧ Cn l ∧ val l = z.natAbs ∧ x.neg = decide (z < 0)
/-- x is normalized, stands for z, and its digits are the call's own. -/
def IV.own (x : IV) (D : MH) (z : Int) : Prop := ∃ l, Own D x.p x.n x.c l ∧ Cn l ∧ val l = z.natAbs ∧ x.neg = decide (z < 0)

theorem IV.rep.up {x : IV} {U U' : UH} {M M' : MH} {z : Int} (h : x.rep U M z) (hU : ULe U U') (hM : M.Sublist M') : x.rep U' M' z := by
  obtain ⟨l, h1, h2⟩ := h; exact ⟨l, h1.up hU hM, h2⟩
theorem IV.nrm.up {x : IV} {U U' : UH} {M M' : MH} {z : Int} (h : x.nrm U M z) (hU : ULe U U') (hM : M.Sublist M') : x.nrm U' M' z := by
  obtain ⟨l, h1, h2⟩ := h; exact ⟨l, h1.up hU hM, h2⟩
theorem IV.nrm.rep {x : IV} {U : UH} {M : MH} {z : Int} (h : x.nrm U M z) : x.rep U M z := by
  obtain ⟨l, h1, h2, h3, h4⟩ := h
  refine ⟨l, h1, ?_⟩
  rw [h3, h4]
  unfold sg
  by_cases hz : z < 0
  · simp [hz]; omega
  · simp [hz]; omega
theorem IV.own.nrm {x : IV} {D : MH} {z : Int} (h : x.own D z) {U : UH} {M : MH} : x.nrm U (D ++ M) z := by
  obtain ⟨l, h1, h2⟩ := h; exact ⟨l, h1.dig, h2⟩

theorem yl_loadD {P : Program} {T : TT} {N : Nat} {G : World} {E : Env} {U : UH} {M : MH} {o : Oper} {t : Nat} {x : Operand} {a : Addr} {d : Nat} {i : TI} (hS : Sym P T) (ho : o.op = .load t x) (hx : ev E x = some (.pointer (some a))) (hT : lkT T t = some i) (hk : one i.k = true)
    (hv : ∀ (G : World) (w : World), Mem G U M w → w.cell? a = some (.int .u32 (d : Int))) : Yl P N G o E U M (.int .u32 (d : Int)) :=
  yl_load_of ho hx fun w hw => run_loadVar_one (hS.at hT) hk (hv G w hw)

/-- A digit of a row of the call's own is read. -/
theorem yl_loadMD {P : Program} {T : TT} {N : Nat} {G : World} {E : Env} {U : UH} {M : MH} {o : Oper} {t b j tb off d : Nat} {x : Operand} {r : List Nat} {ti : TI} (m : Nat) (hS : Sym P T) (ho : o.op = .load t x) (hx : ev E x = some (.pointer (some ⟨b, off, none⟩)))
    (hM : nth M m = some (b, .arr (r.map dg), tb)) (hT : lkT T t = some ti) (hk : one ti.k = true) (hoff : off = j) (hd : r[j]? = some d) : Yl P N G o E U M (.int .u32 (d : Int)) := by
  subst hoff
  exact yl_loadE1 (j := off) m hS ho (by rw [hx]; simp) hM hT hk (dg_size r) (v := dg d) (by rw [List.getElem?_map, hd]; rfl) rfl

/-- A digit of a row of the call's own is written. -/
theorem sl_storeD {P : Program} {T : TT} {K : Kont} {N : Nat} {G : World} {E : Env} {U : UH} {M : MH} {L : List Oper} {l : List Ent} {f : Bool} {i : Nat} {o : Oper} {t b j tb off : Nat} {x y : Operand} {v : Nat} {r : List Nat} {ti : TI} (m : Nat) (hS : Sym P T) (ho : o.op = .store t x y) (hx : ev E x = some (.pointer (some ⟨b, off, none⟩))) {iv : Int} (hy : ev E y = some (.int .u32 iv)) (hiv : iv = (v : Int))
    (hM : nth M m = some (b, .arr (r.map dg), tb)) (hT : lkT T t = some ti) (hs : ti.size = 1) (hoff : off = j) (hj : j < r.length)
    (hg : gok L E o.guard = some true) (hk : xB f T o = true) (hd : o.dst = none) (h : SL P T L K N G l E U (M.set m (b, .arr ((r.set j v).map dg), tb))) : SL P T L K N G ((f, i, o) :: l) E U M := by
  subst hiv
  refine sl_storeE m hS ho hx (v := dg v) hy hM hT hs (j := j) (by omega) (dg_size r) rfl (by simpa using hj) rfl hg hk hd ?_
  rw [← List.map_set]; exact h

end Go.Proofs.Ytlnmhjkagnfnaaa

/- The steps of a walk, each under a short name, with the side conditions found at the spot. -/
namespace Go.Proofs.Ytlnmhjkagnfnaaa
open Go.Hp
variable {K : Kont} {N : Nat} {G : World} {E : Env} {U : UH} {M : MH} {L : List Oper} {l : List Ent} {f : Bool} {i : Nat} {o : Oper}

theorem w_i64 {d ty yt : Nat} {op : BinOp} {x y : Operand} {a b r : Int} (h : SL Try.prog tys L K N G l ((d, .int .i64 r) :: E) U M) (ho : o.op = .binOp op ty x y yt := by exact rfl) (hx : ev E x = some (.int .i64 a) := by exact rfl) (hy : ev E y = some (.int .i64 b) := by exact rfl)
    (hr : ar op a b = some r := by exact rfl) (hb : -9223372036854775808 ≤ r ∧ r ≤ 9223372036854775807 := by omega) (hk : yB f tys o = true := by exact rfl) (hd : o.dst = some d := by exact rfl) (hN : Nat.blt d N = true := by exact rfl) (hg : gok L E o.guard = some true := by exact rfl) :
    SL Try.prog tys L K N G ((f, i, o) :: l) E U M := sl_y (yl_i64 ho hx hy hr hb) hk hd hN hg h
theorem w_u64 {d ty yt : Nat} {op : BinOp} {x y : Operand} {a b r : Int} (h : SL Try.prog tys L K N G l ((d, .int .u64 r) :: E) U M) (ho : o.op = .binOp op ty x y yt := by exact rfl) (hx : ev E x = some (.int .u64 a) := by exact rfl) (hy : ev E y = some (.int .u64 b) := by exact rfl)
    (hr : ar op a b = some r := by exact rfl) (hb : 0 ≤ r ∧ r ≤ 18446744073709551615 := by omega) (hk : yB f tys o = true := by exact rfl) (hd : o.dst = some d := by exact rfl) (hN : Nat.blt d N = true := by exact rfl) (hg : gok L E o.guard = some true := by exact rfl) :
    SL Try.prog tys L K N G ((f, i, o) :: l) E U M := sl_y (yl_u64 ho hx hy hr hb) hk hd hN hg h
theorem w_u32 {d ty yt : Nat} {op : BinOp} {x y : Operand} {a b r : Int} (h : SL Try.prog tys L K N G l ((d, .int .u32 r) :: E) U M) (ho : o.op = .binOp op ty x y yt := by exact rfl) (hx : ev E x = some (.int .u32 a) := by exact rfl) (hy : ev E y = some (.int .u32 b) := by exact rfl)
    (hr : ar op a b = some r := by exact rfl) (hb : 0 ≤ r ∧ r ≤ 4294967295 := by omega) (hk : yB f tys o = true := by exact rfl) (hd : o.dst = some d := by exact rfl) (hN : Nat.blt d N = true := by exact rfl) (hg : gok L E o.guard = some true := by exact rfl) :
    SL Try.prog tys L K N G ((f, i, o) :: l) E U M := sl_y (yl_u32 ho hx hy hr hb) hk hd hN hg h
theorem w_cv {d s t : Nat} {x : Operand} {k k' : IntKind} {n : Int} {ti : TI} {b c : Nat} {z : Value} (h : SL Try.prog tys L K N G l ((d, .int k' n) :: E) U M) (ho : o.op = .convert s t x := by exact rfl) (hx : ev E x = some (.int k n) := by exact rfl) (hs : lkT tys s = some ti := by exact rfl) (ht : lkT tys t = some ⟨.int k', b, c, z⟩ := by exact rfl)
    (h0 : 0 ≤ n := by omega) (h1 : n ≤ kmax k' := by simp only [kmax]; omega) (hk : yB f tys o = true := by exact rfl) (hd : o.dst = some d := by exact rfl) (hN : Nat.blt d N = true := by exact rfl) (hg : gok L E o.guard = some true := by exact rfl) :
    SL Try.prog tys L K N G ((f, i, o) :: l) E U M := sl_y (yl_conv sym ho hx hs ht h0 h1) hk hd hN hg h
theorem w_cv32 {d s t : Nat} {x : Operand} {k : IntKind} {n : Int} {ti : TI} {b c : Nat} {z : Value} (h : SL Try.prog tys L K N G l ((d, .int .u32 (n % 4294967296)) :: E) U M) (ho : o.op = .convert s t x := by exact rfl) (hx : ev E x = some (.int k n) := by exact rfl) (hs : lkT tys s = some ti := by exact rfl) (ht : lkT tys t = some ⟨.int .u32, b, c, z⟩ := by exact rfl)
    (hk : yB f tys o = true := by exact rfl) (hd : o.dst = some d := by exact rfl) (hN : Nat.blt d N = true := by exact rfl) (hg : gok L E o.guard = some true := by exact rfl) :
    SL Try.prog tys L K N G ((f, i, o) :: l) E U M := sl_y (yl_conv32 sym ho hx hs ht) hk hd hN hg h
theorem w_p {d : Nat} {v : Value} (h : SL Try.prog tys L K N G l ((d, v) :: E) U M) (hp : pureOp tys E o.op = some v := by exact rfl) (hk : yB f tys o = true := by exact rfl) (hd : o.dst = some d := by exact rfl) (hN : Nat.blt d N = true := by exact rfl) (hg : gok L E o.guard = some true := by exact rfl) :
    SL Try.prog tys L K N G ((f, i, o) :: l) E U M := sl_y (yl_pure sym hp) hk hd hN hg h
theorem nth_z {α : Type} {a : α} {l : List α} : nth (a :: l) 0 = some a := rfl
theorem nth_s {α : Type} {a : α} {l : List α} {i : Nat} {r : Option α} (h : nth l i = r) : nth (a :: l) (i + 1) = r := h
theorem w_m {j d t : Nat} {x : Operand} {b off tb : Nat} {v r : Value} (h : SL Try.prog tys L K N G l ((d, r) :: E) U M) (ho : o.op = .load t x := by exact rfl) (hx : ev E x = some (.pointer (some ⟨b, off, none⟩)) := by exact rfl) (hM : nth M j = some (b, .var v, tb) := by repeat (first | exact nth_z | apply nth_s))
    (hl : ldv tys t v off = some r := by exact rfl) (hk : yB f tys o = true := by exact rfl) (hd : o.dst = some d := by exact rfl) (hN : Nat.blt d N = true := by exact rfl) (hg : gok L E o.guard = some true := by exact rfl) :
    SL Try.prog tys L K N G ((f, i, o) :: l) E U M := sl_y (yl_loadM j sym ho hx hM hl) hk hd hN hg h
theorem w_t {m t b tb : Nat} {x y : Operand} {v old : Value} {ti : TI} (h : SL Try.prog tys L K N G l E U (M.set m (b, .var v, tb))) (ho : o.op = .store t x y := by exact rfl) (hx : ev E x = some (.pointer (some ⟨b, 0, none⟩)) := by exact rfl) (hy : ev E y = some v := by exact rfl)
    (hM : nth M m = some (b, .var old, tb) := by repeat (first | exact nth_z | apply nth_s)) (hT : lkT tys t = some ti := by exact rfl) (hv : v.cells.toList.length = ti.size := by exact rfl) (hold : old.cells.toList.length = ti.size := by exact rfl) (h1 : v.cells.toList.all Value.oneCell' = true := by exact rfl)
    (hg : gok L E o.guard = some true := by exact rfl) (hk : xB f tys o = true := by exact rfl) (hd : o.dst = none := by exact rfl) : SL Try.prog tys L K N G ((f, i, o) :: l) E U M := sl_store m sym ho hx hy hM hT hv hold h1 hg hk hd h
theorem w_shr {d ty yt : Nat} {x y : Operand} {k k' : IntKind} {a b : Int} (h : SL Try.prog tys L K N G l ((d, .int k (a / 2 ^ 32)) :: E) U M) (ho : o.op = .binOp .shr ty x y yt := by exact rfl) (hx : ev E x = some (.int k a) := by exact rfl) (hy : ev E y = some (.int k' b) := by exact rfl)
    (hb : b = ((32 : Nat) : Int) := by exact rfl) (hw : 32 ≤ k.bits := by decide) (hk : yB f tys o = true := by exact rfl) (hd : o.dst = some d := by exact rfl) (hN : Nat.blt d N = true := by exact rfl) (hg : gok L E o.guard = some true := by exact rfl) :
    SL Try.prog tys L K N G ((f, i, o) :: l) E U M := sl_y (yl_shr (n := 32) ho hx hy hb hw) hk hd hN hg h
theorem w_shl {d ty yt : Nat} {x y : Operand} {k k' : IntKind} {a b : Int} (h : SL Try.prog tys L K N G l ((d, .int k (k.wrap (a * 2 ^ 32))) :: E) U M) (ho : o.op = .binOp .shl ty x y yt := by exact rfl) (hx : ev E x = some (.int k a) := by exact rfl) (hy : ev E y = some (.int k' b) := by exact rfl)
    (hb : b = ((32 : Nat) : Int) := by exact rfl) (hw : 32 ≤ k.bits := by decide) (hk : yB f tys o = true := by exact rfl) (hd : o.dst = some d := by exact rfl) (hN : Nat.blt d N = true := by exact rfl) (hg : gok L E o.guard = some true := by exact rfl) :
    SL Try.prog tys L K N G ((f, i, o) :: l) E U M := sl_y (yl_shl (n := 32) ho hx hy hb hw) hk hd hN hg h
theorem w_no {d : Nat} (h : SL Try.prog tys L K N G l ((d, undef) :: E) U M) (hg : gok L E o.guard = some false := by exact rfl) (hd : o.dst = some d := by exact rfl) (hN : Nat.blt d N = true := by exact rfl) :
    SL Try.prog tys L K N G ((f, i, o) :: l) E U M := sl_no hg hd hN h
theorem w_box {d t : Nat} {x : Operand} {v : Value} (h : ∀ b, SL Try.prog tys L K N G l ((d, .pointer (some ⟨b, 0, none⟩)) :: E) U ((b, .var v, t) :: M)) (ho : o.op = .box t x := by exact rfl) (hx : ev E x = some v := by exact rfl) (hg : gok L E o.guard = some true := by exact rfl) (hk : cB f tys o = true := by exact rfl) (hd : o.dst = some d := by exact rfl) (hN : Nat.blt d N = true := by exact rfl) :
    SL Try.prog tys L K N G ((f, i, o) :: l) E U M := sl_box ho hx hg hk hd hN h
theorem w_al {d t : Nat} {k : TK} {sz by' : Nat} {z : Value} (h : ∀ b, SL Try.prog tys L K N G l ((d, .pointer (some ⟨b, 0, none⟩)) :: E) U ((b, .var z, t) :: M)) (ho : o.op = .alloc t := by exact rfl) (hT : lkT tys t = some ⟨k, sz, by', z⟩ := by exact rfl) (hg : gok L E o.guard = some true := by exact rfl) (hd : o.dst = some d := by exact rfl) (hN : Nat.blt d N = true := by exact rfl) :
    SL Try.prog tys L K N G ((f, i, o) :: l) E U M := sl_alloc sym ho hT hg hd hN h

/-! ### many steps at once -/
/-- What stands behind the steps (no search for a contradiction looks into it). -/
structure Hold (q : Prop) : Prop where
  out : q
theorem run_s {p q : Prop} (h : q) (s : Hold q → p := by
  intro h
  (first | refine st_seq ?_ | refine st_region (T := tys) ?_ | refine sl_nil ?_ | refine sk_seq ?_ | refine st_block ?_ | refine sk_block ?_ | refine st_ret ?_ | refine st_exit ?_ | refine st_skip ?_ | refine sk_seq_ret ?_ | refine sk_block_ret ?_ | refine sk_loop_ret ?_ | refine sk_cut_ret ?_ | refine sk_cut_exit ?_ | refine sk_seq_exit ?_ | refine sk_block_here ?_ | refine sk_block_far rfl ?_ | refine sk_loop_exit ?_ | refine st_true rfl ?_ | refine st_false rfl ?_ | refine w_i64 ?_ | refine w_u64 ?_ | refine w_u32 ?_ | refine w_cv ?_ | refine w_cv32 ?_ | refine w_shr ?_ | refine w_shl ?_ | refine w_p ?_ | refine w_no ?_ | refine w_m ?_)
  repeat (first | refine st_seq ?_ | refine st_region (T := tys) ?_ | refine sl_nil ?_ | refine sk_seq ?_ | refine st_block ?_ | refine sk_block ?_ | refine st_ret ?_ | refine st_exit ?_ | refine st_skip ?_ | refine sk_seq_ret ?_ | refine sk_block_ret ?_ | refine sk_loop_ret ?_ | refine sk_cut_ret ?_ | refine sk_cut_exit ?_ | refine sk_seq_exit ?_ | refine sk_block_here ?_ | refine sk_block_far rfl ?_ | refine sk_loop_exit ?_ | refine st_true rfl ?_ | refine st_false rfl ?_ | refine w_i64 ?_ | refine w_u64 ?_ | refine w_u32 ?_ | refine w_cv ?_ | refine w_cv32 ?_ | refine w_shr ?_ | refine w_shl ?_ | refine w_p ?_ | refine w_no ?_ | refine w_m ?_)
  exact h.out) : p := s ⟨h⟩
theorem run_S {p q : Prop} (h : q) (s : Hold q → p := by
  intro h
  (first | refine st_seq ?_ | refine st_region (T := tys) ?_ | refine sl_nil ?_ | refine sk_seq ?_ | refine st_block ?_ | refine sk_block ?_ | refine st_ret ?_ | refine st_exit ?_ | refine st_skip ?_ | refine sk_seq_ret ?_ | refine sk_block_ret ?_ | refine sk_loop_ret ?_ | refine sk_cut_ret ?_ | refine sk_cut_exit ?_ | refine sk_seq_exit ?_ | refine sk_block_here ?_ | refine sk_block_far rfl ?_ | refine sk_loop_exit ?_ | refine st_true rfl ?_ | refine st_false rfl ?_ | refine w_i64 ?_ | refine w_u64 ?_ | refine w_u32 ?_ | refine w_cv ?_ | refine w_cv32 ?_ | refine w_shr ?_ | refine w_shl ?_ | refine w_p ?_ | refine w_no ?_ | refine w_m ?_ | refine w_t ?_)
  repeat (first | refine st_seq ?_ | refine st_region (T := tys) ?_ | refine sl_nil ?_ | refine sk_seq ?_ | refine st_block ?_ | refine sk_block ?_ | refine st_ret ?_ | refine st_exit ?_ | refine st_skip ?_ | refine sk_seq_ret ?_ | refine sk_block_ret ?_ | refine sk_loop_ret ?_ | refine sk_cut_ret ?_ | refine sk_cut_exit ?_ | refine sk_seq_exit ?_ | refine sk_block_here ?_ | refine sk_block_far rfl ?_ | refine sk_loop_exit ?_ | refine st_true rfl ?_ | refine st_false rfl ?_ | refine w_i64 ?_ | refine w_u64 ?_ | refine w_u32 ?_ | refine w_cv ?_ | refine w_cv32 ?_ | refine w_shr ?_ | refine w_shl ?_ | refine w_p ?_ | refine w_no ?_ | refine w_m ?_ | refine w_t ?_)
  exact h.out) : p := s ⟨h⟩
theorem run_o {p q : Prop} (h : q) (s : Hold q → p := by
  intro h
  (first | refine st_region (T := tys) ?_ | refine sl_nil ?_ | refine sk_seq ?_ | refine sk_block ?_ | refine st_ret ?_ | refine st_exit ?_ | refine st_skip ?_ | refine sk_seq_ret ?_ | refine sk_block_ret ?_ | refine sk_loop_ret ?_ | refine sk_cut_ret ?_ | refine sk_cut_exit ?_ | refine sk_seq_exit ?_ | refine sk_block_here ?_ | refine sk_block_far rfl ?_ | refine sk_loop_exit ?_ | refine st_true rfl ?_ | refine st_false rfl ?_ | refine w_i64 ?_ | refine w_u64 ?_ | refine w_u32 ?_ | refine w_cv ?_ | refine w_cv32 ?_ | refine w_shr ?_ | refine w_shl ?_ | refine w_p ?_ | refine w_no ?_ | refine w_m ?_)
  repeat (first | refine st_region (T := tys) ?_ | refine sl_nil ?_ | refine sk_seq ?_ | refine sk_block ?_ | refine st_ret ?_ | refine st_exit ?_ | refine st_skip ?_ | refine sk_seq_ret ?_ | refine sk_block_ret ?_ | refine sk_loop_ret ?_ | refine sk_cut_ret ?_ | refine sk_cut_exit ?_ | refine sk_seq_exit ?_ | refine sk_block_here ?_ | refine sk_block_far rfl ?_ | refine sk_loop_exit ?_ | refine st_true rfl ?_ | refine st_false rfl ?_ | refine w_i64 ?_ | refine w_u64 ?_ | refine w_u32 ?_ | refine w_cv ?_ | refine w_cv32 ?_ | refine w_shr ?_ | refine w_shl ?_ | refine w_p ?_ | refine w_no ?_ | refine w_m ?_)
  exact h.out) : p := s ⟨h⟩
theorem run_O {p q : Prop} (h : q) (s : Hold q → p := by
  intro h
  (first | refine st_region (T := tys) ?_ | refine sl_nil ?_ | refine sk_seq ?_ | refine sk_block ?_ | refine st_ret ?_ | refine st_exit ?_ | refine st_skip ?_ | refine sk_seq_ret ?_ | refine sk_block_ret ?_ | refine sk_loop_ret ?_ | refine sk_cut_ret ?_ | refine sk_cut_exit ?_ | refine sk_seq_exit ?_ | refine sk_block_here ?_ | refine sk_block_far rfl ?_ | refine sk_loop_exit ?_ | refine st_true rfl ?_ | refine st_false rfl ?_ | refine w_i64 ?_ | refine w_u64 ?_ | refine w_u32 ?_ | refine w_cv ?_ | refine w_cv32 ?_ | refine w_shr ?_ | refine w_shl ?_ | refine w_p ?_ | refine w_no ?_ | refine w_m ?_ | refine w_t ?_)
  repeat (first | refine st_region (T := tys) ?_ | refine sl_nil ?_ | refine sk_seq ?_ | refine sk_block ?_ | refine st_ret ?_ | refine st_exit ?_ | refine st_skip ?_ | refine sk_seq_ret ?_ | refine sk_block_ret ?_ | refine sk_loop_ret ?_ | refine sk_cut_ret ?_ | refine sk_cut_exit ?_ | refine sk_seq_exit ?_ | refine sk_block_here ?_ | refine sk_block_far rfl ?_ | refine sk_loop_exit ?_ | refine st_true rfl ?_ | refine st_false rfl ?_ | refine w_i64 ?_ | refine w_u64 ?_ | refine w_u32 ?_ | refine w_cv ?_ | refine w_cv32 ?_ | refine w_shr ?_ | refine w_shl ?_ | refine w_p ?_ | refine w_no ?_ | refine w_m ?_ | refine w_t ?_)
  exact h.out) : p := s ⟨h⟩
/-- One list of entries within another. -/
theorem sb {α : Type} {l M : List α} (h : l.Sublist M := by repeat (first | exact List.Sublist.refl _ | exact List.nil_sublist _ | refine sub_la ?_ | exact List.sublist_append_left _ _ | refine List.Sublist.cons _ ?_ | refine List.Sublist.append (List.Sublist.refl _) ?_ | refine sub_assoc ?_ | refine sub_r ?_)) : l.Sublist M := h

end Go.Proofs.Ytlnmhjkagnfnaaa

/- Sizes of integers; what a call has handed over, read in the memory that follows. -/
namespace Go.Proofs.Ytlnmhjkagnfnaaa
open Go.Hp
variable {G : World} {U : UH} {M : MH}

theorem IV.own.at {x : IV} {D M : MH} {z : Int} (h : x.own D z) {U : UH} (hs : D.Sublist M) : x.nrm U M z :=
  (h.nrm (U := U) (M := [])).up (ULe.refl _) (by rwa [List.append_nil])

/-- A normalized integer has no more digits than any that stands for it. -/
theorem IV.nrm.len_le {x : IV} {U : UH} {M : MH} {z : Int} (h : x.nrm U M z) {k : Nat} (hz : z.natAbs < 4294967296 ^ k) : x.n ≤ k := by
  obtain ⟨l, h1, h2, h3, _⟩ := h
  rw [← h1.len]
  by_cases hl : l = []
  · subst hl; exact Nat.zero_le _
  · have := h2.ge hl
    rw [h3] at this
    have h5 : 4294967296 ^ (l.length - 1) < 4294967296 ^ k := by omega
    have := (Nat.pow_lt_pow_iff_right (a := 4294967296) (by decide)).1 h5
    omega
theorem IV.own.len_le {x : IV} {D : MH} {z : Int} (h : x.own D z) {k : Nat} (hz : z.natAbs < 4294967296 ^ k) : x.n ≤ k := (h.nrm (U := fun _ => none) (M := [])).len_le hz

/-- An integer with at most k digits. -/
def Sz (z : Int) (k : Nat) : Prop := z.natAbs < 4294967296 ^ k
theorem Sz.mono {z : Int} {j k : Nat} (h : Sz z j) (hk : j ≤ k) : Sz z k := Nat.lt_of_lt_of_le h (Nat.pow_le_pow_right (by decide) hk)
theorem Sz.mul {z u : Int} {j k : Nat} (h : Sz z j) (h' : Sz u k) : Sz (z * u) (j + k) := by
  unfold Sz at *
  rw [Int.natAbs_mul, Nat.pow_add]
  exact Nat.mul_lt_mul'' h h'
theorem Sz.add {z u : Int} {k : Nat} (h : Sz z k) (h' : Sz u k) : Sz (z + u) (k + 1) := by
  unfold Sz at *
  have := Int.natAbs_add_le z u
  rw [Nat.pow_succ]
  omega
theorem Sz.neg {z : Int} {k : Nat} (h : Sz z k) : Sz (-z) k := by
  unfold Sz at *
  rwa [Int.natAbs_neg]
theorem Sz.sub {z u : Int} {k : Nat} (h : Sz z k) (h' : Sz u k) : Sz (z - u) (k + 1) := by
  rw [Int.sub_eq_add_neg]; exact h.add h'.neg
theorem Sz.abs {z : Int} {k : Nat} (h : Sz z k) : Sz (z.natAbs : Int) k := by
  unfold Sz at *
  simpa using h
theorem Sz.gcd {z u : Int} {k : Nat} (h : Sz z k) (h' : Sz u k) : Sz (Int.gcd z u : Int) k := by
  unfold Sz at *
  rw [Int.natAbs_natCast]
  by_cases hz : z = 0
  · subst hz; simpa using h'
  · have := Nat.le_of_dvd (Int.natAbs_pos.2 hz) (Int.natAbs_dvd_natAbs.2 (Int.gcd_dvd_left z u))
    rw [Int.natAbs_natCast] at this
    omega
theorem IV.rep.sz {x : IV} {z : Int} (h : x.rep U M z) {k : Nat} (hn : x.n ≤ k) : Sz z k := by
  obtain ⟨l, hd, rfl⟩ := h
  refine Sz.mono (j := x.n) ?_ hn
  unfold Sz
  rw [show (sg x.neg (val l)).natAbs = val l by unfold sg; split <;> omega, ← hd.len]
  exact val_lt hd.bd
theorem IV.own.le {x : IV} {D : MH} {z : Int} (h : x.own D z) {k b : Nat} (hz : Sz z k) (hk : k ≤ b) : x.n ≤ b := Nat.le_trans (h.len_le hz) hk

end Go.Proofs.Ytlnmhjkagnfnaaa

/- The guess of a digit of a quotient (Knuth, algorithm D). No program; no condition. -/
namespace Go.Hp

structure KD (P LU u2 top L v2 v1 U V : Nat) : Prop where
  hU : U = LU + P * (u2 + 4294967296 * top)
  hV : V = L + P * (v2 + 4294967296 * v1)
  hLU : LU < P
  hL : L < P
  hu2 : u2 < 4294967296
  hv2 : v2 < 4294967296
  hv1 : 0 < v1
  hlt : U < V * 4294967296

variable {P LU u2 top L v2 v1 U V g r : Nat}

theorem KD.gV (k : KD P LU u2 top L v2 v1 U V) (g : Nat) : g * V = g * L + P * (g * v2 + 4294967296 * (g * v1)) := by
  rw [k.hV, Nat.mul_add, Nat.mul_left_comm g P, Nat.mul_add g, Nat.mul_left_comm g 4294967296]

theorem KD.start (k : KD P LU u2 top L v2 v1 U V) (h : g * v1 + r = top) (hr : r < v1) : U < (g + 1) * V := by
  have a : top + 1 ≤ (g + 1) * v1 := by rw [Nat.add_mul]; omega
  have b : P * (u2 + 4294967296 * top + 1) ≤ P * ((g + 1) * v2 + 4294967296 * ((g + 1) * v1)) := Nat.mul_le_mul_left _ (by have := k.hu2; omega)
  rw [k.gV, k.hU]
  rw [Nat.mul_add P _ 1] at b
  have := k.hLU
  omega

theorem KD.cmp (k : KD P LU u2 top L v2 v1 U V) (h : g * v1 + r = top) (hc : r * 4294967296 + u2 < g * v2) : U < g * V := by
  have b : P * (u2 + 4294967296 * top + 1) ≤ P * (g * v2 + 4294967296 * (g * v1)) := Nat.mul_le_mul_left _ (by omega)
  rw [k.gV, k.hU]
  rw [Nat.mul_add P _ 1] at b
  have := k.hLU
  omega

theorem KD.big (k : KD P LU u2 top L v2 v1 U V) (h : 4294967296 ≤ g) : U < g * V := by
  have : V * 4294967296 ≤ V * g := Nat.mul_le_mul_left _ h
  rw [Nat.mul_comm g]
  have := k.hlt
  omega

theorem KD.top_lt (k : KD P LU u2 top L v2 v1 U V) : top < (v1 + 1) * 4294967296 := by
  have h := k.hlt
  rw [k.hU, k.hV] at h
  have hp : 0 < P := by have := k.hL; omega
  have a : P * (u2 + 4294967296 * top) < P * ((v2 + 4294967296 * v1 + 1) * 4294967296) := by
    have : (L + P * (v2 + 4294967296 * v1)) * 4294967296 ≤ (P * (v2 + 4294967296 * v1 + 1)) * 4294967296 := Nat.mul_le_mul_right _ (by rw [Nat.mul_add P _ 1]; have := k.hL; omega)
    rw [Nat.mul_assoc] at this
    omega
  have := Nat.lt_of_mul_lt_mul_left a
  have := k.hv2
  omega

theorem KD.brk (k : KD P LU u2 top L v2 v1 U V) (h : g * v1 + r = top) (hr : 4294967296 ≤ r) : g < 4294967296 ∧ g * v2 ≤ r * 4294967296 + u2 := by
  have a := k.top_lt
  have b : g < 4294967296 := by
    rcases Nat.lt_or_ge g 4294967296 with h1 | h1
    · exact h1
    · exfalso
      have : 4294967296 * v1 ≤ g * v1 := Nat.mul_le_mul_right _ h1
      omega
  refine ⟨b, ?_⟩
  have : g * v2 ≤ 4294967296 * 4294967296 := Nat.mul_le_mul (by omega) (by have := k.hv2; omega)
  omega

theorem KD.fin (k : KD P LU u2 top L v2 v1 U V) (hg : g < 4294967296) (h : g * v1 + r = top) (hc : g * v2 ≤ r * 4294967296 + u2) : g * V ≤ U + V := by
  have a : P * (g * v2 + 4294967296 * (g * v1)) ≤ P * (u2 + 4294967296 * top) := Nat.mul_le_mul_left _ (by omega)
  have b : g * L ≤ 4294967296 * P := Nat.mul_le_mul (by omega) (by have := k.hL; omega)
  have c : P * 4294967296 ≤ P * (v2 + 4294967296 * v1) := Nat.mul_le_mul_left _ (by have := k.hv1; omega)
  have e := k.gV g
  have := k.hU
  have := k.hV
  omega

/-- The first guess is not far off. -/
theorem KD.small (k : KD P LU u2 top L v2 v1 U V) (h : g * v1 + r = top) (hv : 2147483648 ≤ v1) : g ≤ 4294967297 := by
  have a := k.top_lt
  rcases Nat.lt_or_ge 4294967297 g with h1 | h1
  · exfalso
    have : 4294967298 * v1 ≤ g * v1 := Nat.mul_le_mul_right _ h1
    omega
  · exact h1

theorem div_of {U V g R : Nat} (h : g * V + R = U) (hR : R < V) : U / V = g ∧ U % V = R := by
  subst h
  rw [Nat.mul_comm g V]
  exact ⟨by rw [Nat.mul_add_div (by omega), Nat.div_eq_of_lt hR, Nat.add_zero], by rw [Nat.mul_add_mod, Nat.mod_eq_of_lt hR]⟩

/-- One digit of the product is taken away. -/
theorem sub_step {D U V pw c b u x lo c' d b' g : Nat} (hv : D + g * V = U + pw * (c + b)) (hl : lo + 4294967296 * c' = g * x + c) (hd : d + lo + b = u + 4294967296 * b') :
    D + pw * d + g * (V + pw * x) = U + pw * u + pw * 4294967296 * (c' + b') := by
  have e : pw * (lo + 4294967296 * c') = pw * (g * x + c) := by rw [hl]
  have f : pw * (d + lo + b) = pw * (u + 4294967296 * b') := by rw [hd]
  simp only [Nat.mul_add, Nat.mul_assoc, Nat.mul_left_comm g pw] at *
  omega

end Go.Hp

/- Lengths in binary digits. No program; no condition. -/
namespace Go.Hp

/-- The number of binary digits. -/
def blen (n : Nat) : Nat := if n = 0 then 0 else Nat.log2 n + 1

theorem blen_lt (n : Nat) : n < 2 ^ blen n := by
  unfold blen
  split
  · rename_i h; subst h; decide
  · exact Nat.lt_log2_self
theorem blen_le {n : Nat} (h : n ≠ 0) : 2 ^ (blen n - 1) ≤ n := by
  unfold blen
  rw [if_neg h, Nat.add_sub_cancel]
  exact Nat.log2_self_le h
theorem blen_zero : blen 0 = 0 := rfl
theorem blen_pos {n : Nat} (h : n ≠ 0) : 0 < blen n := by
  unfold blen; rw [if_neg h]; omega
theorem blen_of {n k : Nat} (h1 : 2 ^ k ≤ n) (h2 : n < 2 ^ (k + 1)) : blen n = k + 1 := by
  have h0 : n ≠ 0 := by
    have := Nat.two_pow_pos k
    omega
  have a := blen_lt n
  have b := blen_le h0
  have c := blen_pos h0
  rcases Nat.lt_trichotomy (blen n) (k + 1) with h | h | h
  · exfalso
    have : 2 ^ blen n ≤ 2 ^ k := Nat.pow_le_pow_right (by omega) (by omega)
    omega
  · exact h
  · exfalso
    have : 2 ^ (k + 1) ≤ 2 ^ (blen n - 1) := Nat.pow_le_pow_right (by omega) (by omega)
    omega
theorem blen_shift {n s : Nat} (h : 2 ^ s ≤ n) : blen (n / 2 ^ s) + s = blen n := by
  have hp := Nat.two_pow_pos s
  have h0 : n / 2 ^ s ≠ 0 := by
    have := Nat.div_pos h hp
    omega
  have a := blen_lt (n / 2 ^ s)
  have b := blen_le h0
  have c := blen_pos h0
  obtain ⟨k, hk⟩ : ∃ k, blen (n / 2 ^ s) = k + 1 := ⟨blen (n / 2 ^ s) - 1, by omega⟩
  rw [hk] at a b ⊢
  rw [Nat.add_sub_cancel] at b
  have h1 : 2 ^ (k + s) ≤ n := by
    rw [Nat.pow_add]
    exact Nat.le_trans (Nat.mul_le_mul_right _ b) (Nat.div_mul_le_self n _)
  have h2 : n < 2 ^ (k + s + 1) := by
    have := Nat.lt_mul_of_div_lt a hp
    rw [← Nat.pow_add] at this
    rwa [show k + s + 1 = k + 1 + s by omega]
  rw [blen_of h1 h2]; omega
theorem blen_le_of {n k : Nat} (h : n < 2 ^ k) : blen n ≤ k := by
  rcases Nat.lt_or_ge k (blen n) with h1 | h1
  · exfalso
    have h0 : n ≠ 0 := by intro e; subst e; rw [blen_zero] at h1; omega
    have b := blen_le h0
    have : 2 ^ k ≤ 2 ^ (blen n - 1) := Nat.pow_le_pow_right (by omega) (by omega)
    omega
  · exact h1

/-- A table of the lengths of the numbers below 256. -/
def okTab (s : ByteArray) : Bool := (List.range 256).all fun j => (s[j]?).map (·.toNat) == some (blen j)
theorem okTab_get {s : ByteArray} (h : okTab s = true) {j : Nat} (hj : j < 256) : ∃ b, s[j]? = some b ∧ b.toNat = blen j := by
  have := List.all_eq_true.1 h j (List.mem_range.2 hj)
  simp only [beq_iff_eq] at this
  cases hb : s[j]? with
  | none => rw [hb] at this; cases this
  | some b => rw [hb] at this; exact ⟨b, rfl, by simpa using this⟩

variable {P : Program} {T : TT} {K : Kont} {N : Nat} {G : World} {E : Env} {U : UH} {M : MH} {L : List Oper} {l : List Ent} {f : Bool} {i : Nat} {o : Oper}

/-- A byte of a string. -/
theorem yl_byte {t : Nat} {x ix : Operand} {s : ByteArray} {iv : Int} {j : Nat} {k : IntKind} {b : UInt8} {sz bt : Nat} {z : Value} (hS : Sym P T) (ho : o.op = .index t x ix) (hx : ev E x = some (.string s)) (hi : ev E ix = some (.int k iv))
    (hT : lkT T t = some ⟨.str, sz, bt, z⟩) (hj : iv = (j : Int)) (hb : s[j]? = some b) : Yl P N G o E U M (.int .u8 ((b.toNat : Nat) : Int)) := by
  refine ⟨fun a w ha hw => ?_⟩
  obtain ⟨d, hd, hk⟩ := (hS.at hT).und
  have := kindOf_str hk
  subst this hj
  have h1 : (0 : Int) ≤ (j : Int) := by omega
  simp [execOp, ho, ha.eval hx, ha.eval hi, Instr.index, asIntOf, run_underlying' hd, h1, hb]

theorem yl_tab {t : Nat} {x ix : Operand} {s : ByteArray} {iv : Int} {j : Nat} {k : IntKind} {sz bt : Nat} {z : Value} (hS : Sym P T) (ho : o.op = .index t x ix) (hx : ev E x = some (.string s)) (hs : okTab s = true) (hi : ev E ix = some (.int k iv))
    (hT : lkT T t = some ⟨.str, sz, bt, z⟩) (hj : iv = (j : Int)) (hlt : j < 256) : Yl P N G o E U M (.int .u8 ((blen j : Nat) : Int)) := by
  obtain ⟨b, h1, h2⟩ := okTab_get hs hlt
  have := yl_byte (N := N) (G := G) (U := U) (M := M) hS ho hx hi hT hj h1
  rwa [h2] at this

end Go.Hp

/- append of digits. -/
namespace Go.Proofs.Ytlnmhjkagnfnaaa
open Go.Hp

theorem Own.to_row {D : MH} {p : Option Addr} {n c : Nat} {l : List Nat} (h : Own D p n c l) : Row TU32 D p n c (l.map dg) ∧ ∀ k, k ∈ D → ∀ r, k.2.1 = .arr r → ∀ v ∈ r, v.cells.toList.length = 1 := by
  cases h with
  | nil => exact ⟨Row.nil, fun k hk => (by cases hk)⟩
  | @arr b n c r t hn hc hm hb ht =>
    refine ⟨?_, fun k hk r' hr v hv => ?_⟩
    · have := Row.row (e := TU32) (b := b) (n := n) (c := c) (r := l.map dg ++ t) (by omega) (by rw [List.length_append, List.length_map]; omega) hm
      rwa [List.take_left' (by rw [List.length_map, hn])] at this
    · rw [List.mem_singleton.1 hk] at hr
      cases hr
      rcases List.mem_append.1 hv with h | h
      · exact dg_size _ v h
      · exact ht v h

/-- append of digits that may be read onto digits of the call's own. -/
theorem sl_appendD {P : Program} {T : TT} {K : Kont} {N : Nat} {G : World} {E : Env} {U : UH} {M : MH} {L : List Oper} {l : List Ent} {f : Bool} {i : Nat} {o : Oper} {d t bt bt' : Nat} {x y : Operand} {z' : Value} {D X : MH} {p q : Option Addr} {n c m c' : Nat} {vl news : List Nat}
    (hS : Sym P T) (ho : o.op = .call { callee := .builtin .append, args := #[x, y], argTypes := #[t, t] })
    (hx : ev E x = some (.slice p n c)) (hy : ev E y = some (.slice q m c')) (hT : lkT T t = some ⟨.slice TU32, bt, bt', z'⟩) (he : lkT T TU32 = some ⟨.int .u32, 1, 4, .int .u32 0⟩)
    (hown : Own D p n c vl) (hM : M = D ++ X) (hd2 : Dig U M q m c' news) (hbound : n + m ≤ 35184372088832)
    (hg : gok L E o.guard = some true) (hk : f = false) (hd : o.dst = some d) (hN : Nat.blt d N = true)
    (h : ∀ p' cc D', Own D' p' (n + m) cc (vl ++ news) → SL P T L K N G l ((d, .slice p' (n + m) cc) :: E) U (D' ++ X)) : SL P T L K N G ((f, i, o) :: l) E U M := by
  obtain ⟨r1, r2⟩ := hown.to_row
  have hn1 := hd2.news
  have hbv : Bd vl := (hown.dig (U := U) (M := X)).bd
  refine sl_append (D := D) (M0 := X) (news := news.map dg) (m := m) (vl := vl.map dg) hS ho hx hy hT he rfl rfl hM r1 (dg_size vl) r2 (by rw [List.length_map, hd2.len]) (dg_size news) (dg_one news)
    (fun h => by
      obtain ⟨a0, h1, h2⟩ := hn1 h
      exact ⟨a0, h1, fun w hw => h2 w hw⟩) (by omega) (by omega) hg hk hd hN (fun p' cc D' hr' hs' => ?_)
  rw [← List.map_append] at hr'
  exact h p' cc D' (Own.of_row hr' hs' (fun d hd => by
    rcases List.mem_append.1 hd with h | h
    · exact hbv d h
    · exact hd2.bd d h))

end Go.Proofs.Ytlnmhjkagnfnaaa

/- Bytes of the call's own: append, elements, conversion to a string. -/
namespace Go.Proofs.Ytlnmhjkagnfnaaa
open Go.Hp

def by8 (d : Nat) : Value := .int .u8 (d : Int)
abbrev TU8 : Nat := 5

/-- A slice of bytes that the call has made. -/
inductive OwnB : MH → Option Addr → Nat → Nat → List Nat → Prop where
  | nil : OwnB [] none 0 0 []
  | arr {b n c : Nat} {r : List Nat} {t : List Value} (hn : r.length = n) (hc : n + t.length = c) (hm : c ≤ 9223372036854775807) (hb : ∀ d ∈ r, d < 256) (ht : ∀ v ∈ t, v.cells.toList.length = 1) : OwnB [(b, .arr (r.map by8 ++ t), TU8)] (some ⟨b, 0, none⟩) n c r

theorem OwnB.len {D : MH} {p : Option Addr} {n c : Nat} {l : List Nat} (h : OwnB D p n c l) : l.length = n ∧ n ≤ c ∧ c ≤ 9223372036854775807 := by
  cases h with
  | nil => exact ⟨rfl, Nat.le_refl _, by omega⟩
  | arr hn hc hm hb ht => exact ⟨hn, by omega, hm⟩
theorem OwnB.lt {D : MH} {p : Option Addr} {n c : Nat} {l : List Nat} (h : OwnB D p n c l) : ∀ d ∈ l, d < 256 := by
  cases h with
  | nil => intro d hd; cases hd
  | arr hn hc hm hb ht => exact hb

variable {P : Program} {T : TT} {K : Kont} {N : Nat} {G : World} {E : Env} {U : UH} {M : MH} {L : List Oper} {l : List Ent} {f : Bool} {i : Nat} {o : Oper}

def bstr (r : List Nat) : ByteArray := ⟨(r.map UInt8.ofNat).toArray⟩

/-! ### strings -/
end Go.Proofs.Ytlnmhjkagnfnaaa

/- Decimal digits, the lowest first. -/
namespace Go.Hp

def dval : List Nat → Nat
  | [] => 0
  | d :: l => d + 10 * dval l
def dl (n : Nat) : List Nat := if n < 10 then [n] else n % 10 :: dl (n / 10)
termination_by n
decreasing_by omega

/-- The decimal form. -/
def fmt (z : Int) : List Nat := (if z < 0 then [45] else []) ++ ((dl z.natAbs).map (48 + ·)).reverse

end Go.Hp
