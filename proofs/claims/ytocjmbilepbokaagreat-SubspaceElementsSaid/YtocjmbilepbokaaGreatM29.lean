/- Texts of this seat's own, merged: each begins with its own remark. -/
import Derived.Test.YtocjmbilepbokaaGreatM34
import Derived.Test.YtocjmbilepbokaaGreatM19
import Derived.Test.YtocjmbilepbokaaGreatLi
/- Subspaces: columns without a pivot, annihilators, sums and intersections. No condition. -/
namespace Go.La
section
variable {K : Type} [Fld K]

def dot (n : Nat) (x y : Nat → K) : K := sm n fun j => x j * y j
theorem dot_comm {n : Nat} {x y : Nat → K} : dot n x y = dot n y x := sm_congr fun _ _ => mul_comm _ _
theorem dot_sp {r n : Nat} {A : Mx K} {x y : Nat → K} (h : Sp r n A x) (hz : ∀ i, i < r → dot n (A i) y = 0) : dot n x y = 0 := by
  obtain ⟨c, hc⟩ := h
  have : dot n x y = sm r fun i => c i * dot n (A i) y := by
    show sm n (fun j => x j * y j) = _
    rw [sm_congr (g := fun j => sm r fun i => c i * (A i j * y j)) fun j hj => by
      rw [hc j hj, ← sm_mul']
      exact sm_congr fun i _ => mul_assoc _ _ _, sm_comm]
    exact sm_congr fun i _ => sm_mul _ _ _
  rw [this]
  exact sm_zero fun i hi => by rw [hz i hi, mul_zero]
theorem ker_dot {n r : Nat} {R : Mx K} {x : Nat → K} : Ker n r (tr R) x ↔ ∀ i, i < r → dot n x (R i) = 0 := Iff.rfl

/-- The columns without a pivot. -/
structure Cols (r n m : Nat) (p f : Nat → Nat) : Prop where
  lt : ∀ k, k < m → f k < n
  mono : ∀ i k, i < k → k < m → f i < f k
  not : ∀ i k, i < r → k < m → p i ≠ f k
  all : ∀ j, j < n → (∃ i, i < r ∧ p i = j) ∨ ∃ k, k < m ∧ f k = j

theorem Cols.start {r : Nat} {p f : Nat → Nat} : Cols r 0 0 p f :=
  ⟨fun _ h => absurd h (Nat.not_lt_zero _), fun _ _ _ h => absurd h (Nat.not_lt_zero _), fun _ _ _ h => absurd h (Nat.not_lt_zero _), fun _ h => absurd h (Nat.not_lt_zero _)⟩
theorem Cols.pass {r n m : Nat} {p f : Nat → Nat} (h : Cols r n m p f) (e : ∃ i, i < r ∧ p i = n) : Cols r (n + 1) m p f :=
  ⟨fun k hk => Nat.lt_succ_of_lt (h.lt k hk), h.mono, h.not, fun j hj => by
    rcases Nat.lt_or_eq_of_le (Nat.le_of_lt_succ hj) with h1 | h1
    · exact h.all j h1
    · exact .inl (h1 ▸ e)⟩
theorem Cols.more {r n m : Nat} {p f f' : Nat → Nat} (h : Cols r n m p f) (e : ¬ ∃ i, i < r ∧ p i = n) (h1 : ∀ k, k < m → f' k = f k) (h2 : f' m = n) : Cols r (n + 1) (m + 1) p f' := by
  have key : ∀ k, k < m + 1 → (k < m ∧ f' k = f k) ∨ (k = m ∧ f' k = n) := fun k hk => by
    rcases Nat.lt_or_eq_of_le (Nat.le_of_lt_succ hk) with h3 | h3
    · exact .inl ⟨h3, h1 k h3⟩
    · exact .inr ⟨h3, h3 ▸ h2⟩
  refine ⟨fun k hk => ?_, fun i k hik hk => ?_, fun i k hi hk => ?_, fun j hj => ?_⟩
  · rcases key k hk with ⟨h3, h4⟩ | ⟨-, h4⟩
    · have := h.lt k h3; omega
    · omega
  · rcases key i (by omega) with ⟨h3, h4⟩ | ⟨h3, -⟩
    · have h5 := h.lt i h3
      rcases key k hk with ⟨h6, h7⟩ | ⟨-, h7⟩
      · rw [h4, h7]; exact h.mono i k hik h6
      · omega
    · omega
  · rcases key k hk with ⟨h3, h4⟩ | ⟨-, h4⟩
    · rw [h4]; exact h.not i k hi h3
    · rw [h4]; exact fun h5 => e ⟨i, hi, h5⟩
  · rcases Nat.lt_or_eq_of_le (Nat.le_of_lt_succ hj) with h3 | h3
    · rcases h.all j h3 with h4 | ⟨k, hk, h4⟩
      · exact .inl h4
      · exact .inr ⟨k, by omega, by rw [h1 k hk]; exact h4⟩
    · exact .inr ⟨m, by omega, by rw [h2, h3]⟩
theorem Cols.ex (r : Nat) (p : Nat → Nat) : ∀ n, ∃ m f, Cols r n m p f
  | 0 => ⟨0, id, Cols.start⟩
  | n + 1 => by
    obtain ⟨m, f, h⟩ := Cols.ex r p n
    by_cases e : ∃ i, i < r ∧ p i = n
    · exact ⟨m, f, h.pass e⟩
    · exact ⟨m + 1, fun k => if k < m then f k else n, h.more e (fun k hk => if_pos hk) (if_neg (Nat.lt_irrefl m))⟩
theorem Cols.inj {r n m : Nat} {p f : Nat → Nat} (h : Cols r n m p f) {i k : Nat} (hi : i < m) (hk : k < m) (e : f i = f k) : i = k := by
  rcases Nat.lt_trichotomy i k with h1 | h1 | h1
  · have := h.mono i k h1 hk; omega
  · exact h1
  · have := h.mono k i h1 hi; omega
theorem Cols.congr {r n m : Nat} {p p' f : Nat → Nat} (h : Cols r n m p f) (e : ∀ i, i < r → p i = p' i) : Cols r n m p' f :=
  ⟨h.lt, h.mono, fun i k hi hk => by rw [← e i hi]; exact h.not i k hi hk, fun j hj => by
    rcases h.all j hj with ⟨i, hi, h1⟩ | h1
    · exact .inl ⟨i, hi, by rw [← e i hi]; exact h1⟩
    · exact .inr h1⟩
theorem Cols.unique {r n m m' : Nat} {p f f' : Nat → Nat} (h : Cols r n m p f) (h' : Cols r n m' p f') : m = m' ∧ ∀ k, k < m → f k = f' k :=
  mono_eq h.mono h'.mono (fun k hk => by
    rcases h'.all _ (h.lt k hk) with ⟨i, hi, h1⟩ | h1
    · exact absurd h1 (h.not i k hi hk)
    · exact h1) (fun k hk => by
    rcases h.all _ (h'.lt k hk) with ⟨i, hi, h1⟩ | h1
    · exact absurd h1 (h'.not i k hi hk)
    · exact h1)

theorem Ech.inj {r n : Nat} {R : Mx K} {p : Nat → Nat} (h : Ech r n R p) {i k : Nat} (hi : i < r) (hk : k < r) (e : p i = p k) : i = k := by
  rcases Nat.lt_trichotomy i k with h1 | h1 | h1
  · have := h.mono i k h1 hk; omega
  · exact h1
  · have := h.mono k i h1 hi; omega

/-- A sum over all columns, by pivots and others. -/
theorem Ech.split {r n m : Nat} {R : Mx K} {p f : Nat → Nat} (h : Ech r n R p) (hc : Cols r n m p f) {L : Type} [Fld L] (g : Nat → L) : sm n g = (sm r fun i => g (p i)) + sm m fun k => g (f k) := by
  have key : ∀ j, j < n → g j = (sm r fun i => if p i = j then g j else 0) + sm m fun k => if f k = j then g j else 0 := fun j hj => by
    rcases hc.all j hj with ⟨i, hi, rfl⟩ | ⟨k, hk, rfl⟩
    · rw [sm_one i hi fun a ha hne => if_neg fun e => hne (h.inj ha hi e), if_pos rfl, sm_zero fun k hk => if_neg fun e => hc.not i k hi hk e.symm, add_zero]
    · rw [sm_zero fun i hi => if_neg (hc.not i k hi hk), sm_one k hk fun a ha hne => if_neg fun e => hne (hc.inj ha hk e), if_pos rfl, zero_add]
  rw [sm_congr key, sm_add, sm_comm, sm_comm n m]
  congr 1
  · exact sm_congr fun i hi => by rw [sm_one (p i) (h.lt i hi) fun j _ hne => if_neg (Ne.symm hne), if_pos rfl]
  · exact sm_congr fun k hk => by rw [sm_one (f k) (hc.lt k hk) fun j _ hne => if_neg (Ne.symm hne), if_pos rfl]

/-! ### annihilators -/
/-- A basis of the annihilator. -/
def nul (r : Nat) (R : Mx K) (p f : Nat → Nat) : Mx K := fun k j => if j = f k then 1 else sm r fun i => if p i = j then -(R i (f k)) else 0
theorem nul_free {r n m : Nat} {R : Mx K} {p f : Nat → Nat} (hc : Cols r n m p f) {k l : Nat} (hk : k < m) (hl : l < m) : nul r R p f k (f l) = if l = k then 1 else 0 := by
  unfold nul
  by_cases e : l = k
  · rw [if_pos (by rw [e]), if_pos e]
  · rw [if_neg (fun h => e (hc.inj hl hk h)), if_neg e]
    exact sm_zero fun i hi => if_neg (hc.not i l hi hl)
theorem nul_piv {r n m : Nat} {R : Mx K} {p f : Nat → Nat} (h : Ech r n R p) (hc : Cols r n m p f) {k i : Nat} (hk : k < m) (hi : i < r) : nul r R p f k (p i) = -(R i (f k)) := by
  unfold nul
  rw [if_neg (hc.not i k hi hk), sm_one i hi fun a ha hne => if_neg fun e => hne (h.inj ha hi e), if_pos rfl]
theorem Ech.dot {r n m : Nat} {R : Mx K} {p f : Nat → Nat} (h : Ech r n R p) (hc : Cols r n m p f) {x : Nat → K} {i : Nat} (hi : i < r) : dot n x (R i) = x (p i) + sm m fun k => x (f k) * R i (f k) := by
  show sm n (fun j => x j * R i j) = _
  rw [h.split hc, sm_one i hi fun a ha hne => by rw [h.one i a hi ha, if_neg (Ne.symm hne), mul_zero], h.one i i hi hi, if_pos rfl, mul_one]
theorem nul_ker {r n m : Nat} {R : Mx K} {p f : Nat → Nat} (h : Ech r n R p) (hc : Cols r n m p f) {k : Nat} (hk : k < m) : Ker n r (tr R) (nul r R p f k) := ker_dot.2 fun i hi => by
  rw [h.dot hc hi, nul_piv h hc hk hi, sm_one k hk fun l hl hne => by rw [nul_free hc hk hl, if_neg hne, zero_mul], nul_free hc hk hk, if_pos rfl, one_mul, neg_add_self]
theorem nul_sp {r n m : Nat} {R : Mx K} {p f : Nat → Nat} (h : Ech r n R p) (hc : Cols r n m p f) {x : Nat → K} (hx : Ker n r (tr R) x) : Sp m n (nul r R p f) x := by
  refine ⟨fun k => x (f k), fun j hj => ?_⟩
  rcases hc.all j hj with ⟨i, hi, rfl⟩ | ⟨l, hl, rfl⟩
  · have h1 := (ker_dot.1 hx) i hi
    rw [h.dot hc hi] at h1
    rw [sm_congr (g := fun k => -(x (f k) * R i (f k))) fun k hk => by rw [nul_piv h hc hk hi, mul_neg], sm_neg]
    rw [add_comm] at h1
    exact eq_neg h1
  · rw [sm_one l hl fun k hk hne => by rw [nul_free hc hk hl, if_neg (Ne.symm hne), mul_zero], nul_free hc hl hl, if_pos rfl, mul_one]
theorem nul_indep {r n m : Nat} {R : Mx K} {p f : Nat → Nat} (hc : Cols r n m p f) {x : Nat → K} (hx : ∀ j, j < n → sm m (fun k => x k * nul r R p f k j) = 0) : ∀ k, k < m → x k = 0 := fun k hk => by
  have h1 := hx (f k) (hc.lt k hk)
  rwa [sm_one k hk fun l hl hne => by rw [nul_free hc hl hk, if_neg (Ne.symm hne), mul_zero], nul_free hc hk hk, if_pos rfl, mul_one] at h1
/-- What is orthogonal to the annihilator is in the subspace. -/
theorem perp_perp {r n : Nat} {R : Mx K} {p : Nat → Nat} (h : Ech r n R p) {v : Nat → K} : Sp r n R v ↔ ∀ y, Ker n r (tr R) y → dot n v y = 0 := by
  refine ⟨fun hv y hy => dot_sp hv fun i hi => by rw [dot_comm]; exact (ker_dot.1 hy) i hi, fun hv => ?_⟩
  obtain ⟨m, f, hc⟩ := Cols.ex r p n
  refine ⟨fun i => v (p i), fun j hj => ?_⟩
  rcases hc.all j hj with ⟨i, hi, rfl⟩ | ⟨k, hk, rfl⟩
  · rw [sm_one i hi fun a ha hne => by rw [h.one a i ha hi, if_neg hne, mul_zero], h.one i i hi hi, if_pos rfl, mul_one]
  · have h1 := hv _ (nul_ker h hc hk)
    have h2 : La.dot n v (nul r R p f k) = -(sm r fun i => v (p i) * R i (f k)) + v (f k) := by
      show sm n (fun j => v j * nul r R p f k j) = _
      rw [h.split hc, sm_congr (g := fun i => -(v (p i) * R i (f k))) fun i hi => by rw [nul_piv h hc hk hi, mul_neg], sm_neg,
        sm_one k hk fun l hl hne => by rw [nul_free hc hk hl, if_neg hne, mul_zero], nul_free hc hk hk, if_pos rfl, mul_one]
    rw [h2] at h1
    rw [eq_neg h1, neg_neg]
theorem KerOf.cols {r n m s : Nat} {R N : Mx K} {p q f : Nat → Nat} (h : Ech r n R p) (hc : Cols r n m p f) (hN : KerOf n r s (tr R) N q) : s = m :=
  Nat.le_antisymm (hN.ech.le fun _ hi => nul_sp h hc ((hN.sp _).2 (Sp.row hi))) (indep_le (fun _ hk => (hN.sp _).1 (nul_ker h hc hk)) fun _ hx => nul_indep hc hx)

/-! ### sums and intersections -/
theorem sp_stack {r s n : Nat} {A B : Mx K} {v : Nat → K} : Sp (r + s) n (stack r A B) v ↔ ∃ u w, Sp r n A u ∧ Sp s n B w ∧ ∀ j, j < n → v j = u j + w j := by
  constructor
  · rintro ⟨c, hc⟩
    refine ⟨_, _, ⟨c, fun _ _ => rfl⟩, ⟨fun i => c (r + i), fun _ _ => rfl⟩, fun j hj => ?_⟩
    rw [hc j hj, sm_app]
    congr 1
    · exact sm_congr fun i hi => by rw [stack_lt hi]
    · exact sm_congr fun i _ => by rw [stack_add]
  · rintro ⟨u, w, ⟨c, hc⟩, ⟨d, hd⟩, h⟩
    refine ⟨fun i => if i < r then c i else d (i - r), fun j hj => ?_⟩
    rw [h j hj, hc j hj, hd j hj, sm_app]
    congr 1
    · exact sm_congr fun i hi => by show _ = (if i < r then _ else _) * _; rw [if_pos hi, stack_lt hi]
    · exact sm_congr fun i _ => by show _ = (if r + i < r then _ else d (r + i - r)) * _; rw [if_neg (by omega), Nat.add_sub_cancel_left, stack_add]
theorem sp_left {r s n : Nat} {A B : Mx K} {v : Nat → K} (h : Sp r n A v) : Sp (r + s) n (stack r A B) v := sp_stack.2 ⟨v, fun _ => 0, h, Sp.zero, fun _ _ => (add_zero _).symm⟩
theorem sp_right {r s n : Nat} {A B : Mx K} {v : Nat → K} (h : Sp s n B v) : Sp (r + s) n (stack r A B) v := sp_stack.2 ⟨fun _ => 0, v, Sp.zero, h, fun _ _ => (zero_add _).symm⟩

/-- Subspaces of one dimension, of which one contains the other, are equal. -/
theorem Ech.eq_dim {r n : Nat} {R S : Mx K} {p q : Nat → Nat} (h : Ech r n R p) (h' : Ech r n S q) (hs : ∀ i, i < r → Sp r n S (R i)) : Same r r n R S := by
  refine ⟨hs, fun i hi => Classical.byContradiction fun hn => ?_⟩
  have h1 : r + 1 ≤ r := indep_le (A := stack r R fun _ => S i) (B := S) (n := n) (fun k hk => by
    rcases Nat.lt_or_eq_of_le (Nat.le_of_lt_succ hk) with h2 | h2
    · rw [stack_lt h2]; exact hs k h2
    · subst h2
      show Sp k n S (stack k R (fun _ => S i) (k + 0))
      rw [stack_add]; exact Sp.row hi) (fun x hx => by
    have h3 : ∀ j, j < n → (sm r fun k => x k * R k j) + x r * S i j = 0 := fun j hj => by
      rw [← hx j hj, sm_app r 1]
      congr 1
      · exact sm_congr fun k hk => by rw [stack_lt hk]
      · show x r * S i j = 0 + x (r + 0) * stack r R (fun _ => S i) (r + 0) j
        rw [stack_add, zero_add]; rfl
    have h4 : x r = 0 := Classical.byContradiction fun h0 => hn ⟨fun k => -((x r)⁻¹ * x k), fun j hj => by
      have h5 := h3 j hj
      rw [add_comm] at h5
      have h6 : (x r)⁻¹ * (x r * S i j) = S i j := by rw [← mul_assoc, inv_mul _ h0, one_mul]
      rw [← h6, eq_neg (a := sm r fun k => x k * R k j) (b := x r * S i j) (by rw [add_comm]; exact h5), mul_neg, ← sm_mul, ← sm_neg]
      exact sm_congr fun k _ => by rw [neg_mul, mul_assoc]⟩
    have h7 := h.indep (x := x) fun j hj => by
      have := h3 j hj
      rwa [h4, zero_mul, add_zero] at this
    intro k hk
    rcases Nat.lt_or_eq_of_le (Nat.le_of_lt_succ hk) with h2 | h2
    · exact h7 k h2
    · rw [h2]; exact h4)
  omega

/-- The dimensions of the sum and of the intersection. -/
theorem dim_sum {a b s i n : Nat} {A B S I : Mx K} {pa pb ps pi : Nat → Nat} (hA : Ech a n A pa) (hB : Ech b n B pb) (hS : Ech s n S ps) (hI : Ech i n I pi)
    (eS : Same s (a + b) n S (stack a A B)) (eI : ∀ v, Sp i n I v ↔ Sp a n A v ∧ Sp b n B v) : s + i = a + b := by
  obtain ⟨c, hc⟩ : ∃ c : Mx K, ∀ k, k < s → ∀ j, j < n → S k j = sm (a + b) fun t => c k t * stack a A B t j :=
    ⟨fun k => if h : k < s then (eS.lt k h).choose else fun _ => 0, fun k hk j hj => by simp only [dif_pos hk]; exact (eS.lt k hk).choose_spec j hj⟩
  obtain ⟨y, hy⟩ : ∃ y : Mx K, ∀ l, l < i → ∀ j, j < n → I l j = sm a fun t => y l t * A t j :=
    ⟨fun k => if h : k < i then ((eI _).1 (Sp.row h)).1.choose else fun _ => 0, fun k hk j hj => by simp only [dif_pos hk]; exact ((eI _).1 (Sp.row hk)).1.choose_spec j hj⟩
  obtain ⟨z, hz⟩ : ∃ z : Mx K, ∀ l, l < i → ∀ j, j < n → I l j = sm b fun t => z l t * B t j :=
    ⟨fun k => if h : k < i then ((eI _).1 (Sp.row h)).2.choose else fun _ => 0, fun k hk j hj => by simp only [dif_pos hk]; exact ((eI _).1 (Sp.row hk)).2.choose_spec j hj⟩
  -- the vectors that give what is in the intersection twice
  let d : Mx K := fun l t => if t < a then y l t else -(z l (t - a))
  have d1 : ∀ l t, t < a → d l t = y l t := fun l t ht => if_pos ht
  have d2 : ∀ l t, d l (a + t) = -(z l t) := fun l t => by show (if _ then _ else _) = _; rw [if_neg (by omega), Nat.add_sub_cancel_left]
  have im : ∀ (x : Nat → K) (j : Nat), (sm (a + b) fun t => x t * stack a A B t j) = (sm a fun t => x t * A t j) + sm b fun t => x (a + t) * B t j := fun x j => by
    rw [sm_app]
    congr 1
    · exact sm_congr fun t ht => by rw [stack_lt ht]
    · exact sm_congr fun t _ => by rw [stack_add]
  have dz : ∀ l, l < i → ∀ j, j < n → (sm (a + b) fun t => d l t * stack a A B t j) = 0 := fun l hl j hj => by
    rw [im, sm_congr (g := fun t => y l t * A t j) fun t ht => by rw [d1 l t ht], ← hy l hl j hj, sm_congr (g := fun t => -(z l t * B t j)) fun t _ => by rw [d2, neg_mul], sm_neg, ← hz l hl j hj, add_neg_self]
  have swap : ∀ (N M : Nat) (x : Nat → K) (C : Mx K) (j : Nat), (sm M fun t => (sm N fun k => x k * C k t) * stack a A B t j) = sm N fun k => x k * sm M fun t => C k t * stack a A B t j := fun N M x C j => by
    rw [sm_congr (g := fun t => sm N fun k => x k * (C k t * stack a A B t j)) fun t _ => by rw [← sm_mul']; exact sm_congr fun k _ => mul_assoc _ _ _, sm_comm]
    exact sm_congr fun k _ => sm_mul _ _ _
  refine Nat.le_antisymm ?_ ?_
  · refine indep_le (A := stack s c d) (B := idm) (n := a + b) (fun k _ => ⟨stack s c d k, fun j hj => by rw [sm_one j hj (fun t _ ht => by unfold idm; rw [if_neg ht, mul_zero]), idm, if_pos rfl, mul_one]⟩) fun x hx => ?_
    have h1 : ∀ t, t < a + b → (sm s fun k => x k * c k t) + (sm i fun l => x (s + l) * d l t) = 0 := fun t ht => by
      rw [← hx t ht, sm_app]
      congr 1
      · exact sm_congr fun k hk => by rw [stack_lt hk]
      · exact sm_congr fun l _ => by rw [stack_add]
    have h2 : ∀ k, k < s → x k = 0 := hS.indep fun j hj => by
      have h3 : (sm (a + b) fun t => ((sm s fun k => x k * c k t) + (sm i fun l => x (s + l) * d l t)) * stack a A B t j) = 0 := sm_zero fun t ht => by rw [h1 t ht, zero_mul]
      rw [sm_congr (g := fun t => (sm s fun k => x k * c k t) * stack a A B t j + (sm i fun l => x (s + l) * d l t) * stack a A B t j) fun t _ => add_mul _ _ _, sm_add, swap s (a + b) x c j, swap i (a + b) (fun l => x (s + l)) d j,
        sm_zero (f := fun k => x (s + k) * sm (a + b) fun t => d k t * stack a A B t j) fun l hl => by rw [dz l hl j hj, mul_zero], add_zero] at h3
      rw [← h3]
      exact sm_congr fun k hk => by rw [hc k hk j hj]
    have h4 : ∀ l, l < i → x (s + l) = 0 := hI.indep (x := fun l => x (s + l)) fun j hj => by
      have h5 : ∀ t, t < a → (sm i fun l => x (s + l) * y l t) = 0 := fun t ht => by
        have := h1 t (by omega)
        rw [sm_zero fun k hk => by rw [h2 k hk, zero_mul], zero_add] at this
        rw [← this]
        exact sm_congr fun l _ => by rw [d1 l t ht]
      rw [sm_congr (g := fun l => sm a fun t => x (s + l) * y l t * A t j) fun l hl => by rw [hy l hl j hj, ← sm_mul]; exact sm_congr fun t _ => (mul_assoc _ _ _).symm, sm_comm]
      exact sm_zero fun t ht => by rw [sm_mul', h5 t ht, zero_mul]
    intro k hk
    by_cases e : k < s
    · exact h2 k e
    · have := h4 (k - s) (by omega)
      rwa [show s + (k - s) = k by omega] at this
  · refine indep_le (A := idm) (B := stack s c d) (n := a + b) (fun t0 ht0 => ?_) (fun x hx t ht => by
      have := hx t ht
      rwa [sm_one t ht fun k hk hne => by unfold idm; rw [if_neg hne, mul_zero], idm, if_pos rfl, mul_one] at this)
    -- what e_t0 gives is a combination of S; the rest is in the intersection twice
    obtain ⟨al, hal⟩ := eS.rt t0 ht0
    let x : Nat → K := fun t => idm t0 t + -(sm s fun k => al k * c k t)
    have hx : ∀ j, j < n → (sm (a + b) fun t => x t * stack a A B t j) = 0 := fun j hj => by
      have e1 : (sm (a + b) fun t => x t * stack a A B t j) = (sm (a + b) fun t => idm t0 t * stack a A B t j) + -(sm (a + b) fun t => (sm s fun k => al k * c k t) * stack a A B t j) := by
        rw [← sm_neg, ← sm_add]
        exact sm_congr fun t _ => by show (_ + _) * _ = _; rw [add_mul, neg_mul]
      rw [e1, sm_one t0 ht0 fun t _ hne => by unfold idm; rw [if_neg (Ne.symm hne), zero_mul], idm, if_pos rfl, one_mul, swap s (a + b) al c j, hal j hj,
        sm_congr (f := fun k => al k * sm (a + b) fun t => c k t * stack a A B t j) (g := fun k => al k * S k j) fun k hk => by rw [hc k hk j hj], add_neg_self]
    let v : Nat → K := fun j => sm a fun t => x t * A t j
    have hv2 : ∀ j, j < n → v j = sm b fun t => -(x (a + t)) * B t j := fun j hj => by
      have := hx j hj
      rw [im, add_comm] at this
      rw [sm_congr (g := fun t => -(x (a + t) * B t j)) fun t _ => neg_mul _ _, sm_neg]
      exact eq_neg this
    obtain ⟨be, hbe⟩ := (eI v).2 ⟨⟨x, fun _ _ => rfl⟩, ⟨fun t => -(x (a + t)), hv2⟩⟩
    have f1 : ∀ t, t < a → x t + -(sm i fun l => be l * y l t) = 0 := hA.indep fun j hj => by
      rw [sm_congr (g := fun t => x t * A t j + -((sm i fun l => be l * y l t) * A t j)) fun t _ => by rw [add_mul, neg_mul], sm_add, sm_neg]
      have : (sm a fun t => (sm i fun l => be l * y l t) * A t j) = v j := by
        rw [hbe j hj, sm_congr (g := fun t => sm i fun l => be l * (y l t * A t j)) fun t _ => by rw [← sm_mul']; exact sm_congr fun l _ => mul_assoc _ _ _, sm_comm]
        exact sm_congr fun l hl => by rw [sm_mul, hy l hl j hj]
      rw [this]
      exact add_neg_self _
    have f2 : ∀ t, t < b → -(x (a + t)) + -(sm i fun l => be l * z l t) = 0 := hB.indep fun j hj => by
      rw [sm_congr (g := fun t => -(x (a + t)) * B t j + -((sm i fun l => be l * z l t) * B t j)) fun t _ => by rw [add_mul, neg_mul (sm i _)], sm_add, sm_neg]
      have : (sm b fun t => (sm i fun l => be l * z l t) * B t j) = v j := by
        rw [hbe j hj, sm_congr (g := fun t => sm i fun l => be l * (z l t * B t j)) fun t _ => by rw [← sm_mul']; exact sm_congr fun l _ => mul_assoc _ _ _, sm_comm]
        exact sm_congr fun l hl => by rw [sm_mul, hz l hl j hj]
      rw [this, ← hv2 j hj]
      exact add_neg_self _
    refine ⟨fun k => if k < s then al k else be (k - s), fun t ht => ?_⟩
    have g1 : (sm s fun k => (if k < s then al k else be (k - s)) * stack s c d k t) = sm s fun k => al k * c k t := sm_congr fun k hk => by rw [if_pos hk, stack_lt hk]
    have g2 : (sm i fun l => (if s + l < s then al (s + l) else be (s + l - s)) * stack s c d (s + l) t) = sm i fun l => be l * d l t := sm_congr fun l _ => by rw [if_neg (by omega), Nat.add_sub_cancel_left, stack_add]
    rw [sm_app]
    show _ = (sm s fun k => (if k < s then al k else be (k - s)) * stack s c d k t) + (sm i fun l => (if s + l < s then al (s + l) else be (s + l - s)) * stack s c d (s + l) t)
    rw [g1, g2]
    have hxt : x t = sm i fun l => be l * d l t := by
      by_cases e : t < a
      · rw [eq_of_sub (f1 t e)]
        exact sm_congr fun l _ => by rw [d1 l t e]
      · obtain ⟨t', rfl⟩ : ∃ t', t = a + t' := ⟨t - a, by omega⟩
        have := f2 t' (by omega)
        rw [sm_congr (g := fun l => -(be l * z l t')) fun l _ => by rw [d2, mul_neg], sm_neg]
        have h3 := eq_of_sub (b := -(sm i fun l => be l * z l t')) (a := x (a + t')) (neg_inj (by rw [neg_add, neg_zero, neg_neg]; exact this))
        exact h3
    rw [← hxt]
    show _ = _ + (idm t0 t + -_)
    rw [add_left_comm, add_neg_self, add_zero]

end
end Go.La

/- Subspaces: what is left of a vector, maps on invariant subspaces and on quotients. No condition. -/
namespace Go.La
section
variable {K : Type} [Fld K]

/-- What is left of v when the combination of the first r rows with its elements at the pivots is taken away. -/
def prj (r : Nat) (B : Mx K) (p : Nat → Nat) (v : Nat → K) : Nat → K := fun j => v j + -(sm r fun i => v (p i) * B i j)
theorem prj_zero_eq {B : Mx K} {p : Nat → Nat} {v : Nat → K} {j : Nat} : prj 0 B p v j = v j := by
  show v j + -(0 : K) = _
  rw [neg_zero, add_zero]
theorem prj_succ {r : Nat} {B : Mx K} {p : Nat → Nat} {v : Nat → K} {j : Nat} : prj (r + 1) B p v j = prj r B p v j + -(v (p r)) * B r j := by
  show v j + -(_ + v (p r) * B r j) = v j + -_ + -(v (p r)) * B r j
  rw [neg_add, neg_mul, add_assoc]
theorem prj_at {r n i k : Nat} {B : Mx K} {p : Nat → Nat} {v : Nat → K} (h : Ech r n B p) (hi : i < r) (hk : k ≤ i) : prj k B p v (p i) = v (p i) := by
  unfold prj
  rw [sm_zero fun a ha => by rw [h.one a i (by omega) hi, if_neg (by omega), mul_zero], neg_zero, add_zero]
theorem prj_piv {r n i : Nat} {B : Mx K} {p : Nat → Nat} {v : Nat → K} (h : Ech r n B p) (hi : i < r) : prj r B p v (p i) = 0 := by
  unfold prj
  rw [sm_one i hi fun a ha hne => by rw [h.one a i ha hi, if_neg hne, mul_zero], h.one i i hi hi, if_pos rfl, mul_one, add_neg_self]
theorem prj_sp {r n : Nat} {B : Mx K} {p : Nat → Nat} {v : Nat → K} (h : Ech r n B p) : (∀ j, j < n → prj r B p v j = 0) ↔ Sp r n B v :=
  ⟨fun hz => ⟨fun i => v (p i), fun j hj => eq_of_sub (hz j hj)⟩, fun hs j hj => by unfold prj; rw [← h.coef hs hj, add_neg_self]⟩
theorem prj_lin {r : Nat} {B : Mx K} {p : Nat → Nat} {u w : Nat → K} {t : K} {j : Nat} : prj r B p (fun j => u j + t * w j) j = prj r B p u j + t * prj r B p w j := by
  unfold prj
  rw [sm_congr (g := fun i => u (p i) * B i j + t * (w (p i) * B i j)) fun i _ => by rw [add_mul, mul_assoc], sm_add, sm_mul, neg_add, mul_add, mul_neg]
  rw [add_assoc, add_assoc, add_left_comm (t * w j)]
theorem prj_sum {r : Nat} {B : Mx K} {p : Nat → Nat} {j : Nat} (c : Nat → K) (W : Mx K) : ∀ N, prj r B p (fun j => sm N fun l => c l * W l j) j = sm N fun l => c l * prj r B p (W l) j
  | 0 => by
    show (0 : K) + -(sm r fun i => 0 * B i j) = 0
    rw [sm_zero fun i _ => zero_mul _, neg_zero, add_zero]
  | N + 1 => by
    have := prj_lin (r := r) (B := B) (p := p) (u := fun j => sm N fun l => c l * W l j) (w := W N) (t := c N) (j := j)
    show prj r B p (fun j => (sm N fun l => c l * W l j) + c N * W N j) j = (sm N fun l => c l * prj r B p (W l) j) + c N * prj r B p (W N) j
    rw [this, prj_sum c W N]
theorem prj_cong {r n : Nat} {B : Mx K} {p : Nat → Nat} {u w : Nat → K} (h : Ech r n B p) (e : ∀ j, j < n → u j = w j) {j : Nat} (hj : j < n) : prj r B p u j = prj r B p w j := by
  unfold prj
  rw [e j hj, sm_congr fun i hi => by rw [e _ (h.lt i hi)]]

/-- The image of a vector. -/
def act (n : Nat) (T : Mx K) (v : Nat → K) : Nat → K := fun j => sm n fun l => v l * T l j
theorem act_sp {r n : Nat} {B T : Mx K} {v c : Nat → K} (h : ∀ j, j < n → v j = sm r fun i => c i * B i j) (j : Nat) : act n T v j = sm r fun i => c i * mm n B T i j := by
  unfold act
  rw [sm_congr (g := fun l => sm r fun i => c i * (B i l * T l j)) fun l hl => by rw [h l hl, ← sm_mul']; exact sm_congr fun i _ => mul_assoc _ _ _, sm_comm]
  exact sm_congr fun i _ => sm_mul _ _ _
theorem act_lin {n : Nat} {T : Mx K} {u w : Nat → K} {t : K} {j : Nat} : act n T (fun j => u j + t * w j) j = act n T u j + t * act n T w j := by
  unfold act
  rw [sm_congr (g := fun l => u l * T l j + t * (w l * T l j)) fun l _ => by rw [add_mul, mul_assoc], sm_add, sm_mul]
theorem act_mm {n : Nat} {T U : Mx K} {v : Nat → K} {j : Nat} : act n (mm n T U) v j = act n U (act n T v) j := by
  unfold act mm
  rw [sm_congr (g := fun l => sm n fun k => v l * T l k * U k j) fun l _ => by rw [← sm_mul]; exact sm_congr fun k _ => (mul_assoc _ _ _).symm, sm_comm]
  exact sm_congr fun k _ => sm_mul' _ _ _

/-- The subspace is invariant. -/
def Inv (r n : Nat) (B T : Mx K) : Prop := ∀ i, i < r → Sp r n B (mm n B T i)
theorem Inv.act {r n : Nat} {B T : Mx K} (h : Inv r n B T) {v : Nat → K} (hv : Sp r n B v) : Sp r n B (act n T v) := by
  obtain ⟨c, hc⟩ := hv
  exact (Sp.sum c (mm n B T) h).congr (fun _ _ _ _ => rfl) fun j _ => (act_sp hc j).symm
def rst (n : Nat) (B T : Mx K) (p : Nat → Nat) : Mx K := fun i k => mm n B T i (p k)
theorem rst_mm {r n i j : Nat} {B T : Mx K} {p : Nat → Nat} (h : Ech r n B p) (hI : Inv r n B T) (hi : i < r) (hj : j < n) : mm r (rst n B T p) B i j = mm n B T i j := (h.coef (hI i hi) hj).symm
theorem rst_comp {r n i k : Nat} {B T U : Mx K} {p : Nat → Nat} (h : Ech r n B p) (hI : Inv r n B T) (hi : i < r) : rst n B (mm n T U) p i k = mm r (rst n B T p) (rst n B U p) i k := by
  show La.act n (mm n T U) (B i) (p k) = _
  rw [act_mm]
  show La.act n U (mm n B T i) (p k) = _
  rw [act_sp (v := mm n B T i) (B := B) (c := fun l => rst n B T p i l) (r := r) (fun j hj => h.coef (hI i hi) hj)]
  rfl
theorem inv_mm {r n : Nat} {B T U : Mx K} (hT : Inv r n B T) (hU : Inv r n B U) : Inv r n B (mm n T U) := fun i hi =>
  (hU.act (hT i hi)).congr (fun _ _ _ _ => rfl) fun j _ => by
    show La.act n U (La.act n T (B i)) j = La.act n (mm n T U) (B i) j
    rw [act_mm]

def quo (r : Nat) (B T : Mx K) (p f : Nat → Nat) : Mx K := fun c d => prj r B p (T (f c)) (f d)
theorem trace_quo {r n m : Nat} {B T : Mx K} {p f : Nat → Nat} (h : Ech r n B p) (hc : Cols r n m p f) : (sm r fun i => rst n B T p i i) + (sm m fun k => quo r B T p f k k) = sm n fun j => T j j := by
  have h1 : ∀ i, i < r → rst n B T p i i = T (p i) (p i) + sm m fun k => B i (f k) * T (f k) (p i) := fun i hi => by
    show sm n (fun l => B i l * T l (p i)) = _
    rw [h.split hc, sm_one i hi fun a ha hne => by rw [h.one i a hi ha, if_neg (Ne.symm hne), zero_mul], h.one i i hi hi, if_pos rfl, one_mul]
  rw [sm_congr h1, sm_add, h.split hc (fun j => T j j)]
  have h2 : (sm m fun k => quo r B T p f k k) = (sm m fun k => T (f k) (f k)) + -(sm m fun k => sm r fun i => B i (f k) * T (f k) (p i)) := by
    rw [← sm_neg, ← sm_add]
    exact sm_congr fun k _ => by
      show _ + -_ = _ + -_
      rw [sm_congr fun i _ => mul_comm _ _]
  rw [h2, sm_comm r m, add_assoc, add_left_comm (sm m fun j => _), add_neg_self, add_zero]
theorem quo_comp {r n m c d : Nat} {B T U : Mx K} {p f : Nat → Nat} (h : Ech r n B p) (hc : Cols r n m p f) (hU : Inv r n B U) (hd : d < m) : quo r B (mm n T U) p f c d = mm m (quo r B T p f) (quo r B U p f) c d := by
  let v := T (f c)
  let w := prj r B p v
  have hs : Sp r n B (fun j => v j + -1 * w j) := ⟨fun i => v (p i), fun j _ => by
    show v j + -1 * (v j + -_) = _
    rw [neg_mul, one_mul, neg_add, neg_neg, ← add_assoc, add_neg_self, zero_add]⟩
  have h1 : prj r B p (La.act n U (fun j => v j + -1 * w j)) (f d) = 0 := (prj_sp h).2 (hU.act hs) _ (hc.lt d hd)
  have h2 : prj r B p (La.act n U v) (f d) = prj r B p (La.act n U w) (f d) := by
    rw [prj_cong h (w := fun j => La.act n U v j + -1 * La.act n U w j) (fun j _ => act_lin) (hc.lt d hd), prj_lin, neg_mul, one_mul] at h1
    exact eq_of_sub h1
  show prj r B p (mm n T U (f c)) (f d) = _
  have h3 : prj r B p (La.act n U w) (f d) = sm n fun l => w l * prj r B p (U l) (f d) := prj_sum w U n
  show prj r B p (La.act n U v) (f d) = _
  rw [h2, h3, h.split hc, sm_zero fun i hi => by show prj r B p v (p i) * _ = 0; rw [prj_piv h hi, zero_mul], zero_add]
  rfl

/-! ### complements -/
theorem cols_ech {r n m : Nat} {p f : Nat → Nat} (hc : Cols r n m p f) : Ech m n (fun k => (idm (f k) : Nat → K)) f where
  lt := hc.lt
  mono := hc.mono
  one := fun i k hi hk => by
    show (if f i = f k then (1 : K) else 0) = _
    by_cases e : i = k
    · rw [if_pos (by rw [e]), if_pos e]
    · rw [if_neg (fun h => e (hc.inj hi hk h)), if_neg e]
  zero := fun i j _ hj => if_neg (by omega)
theorem idm_ne {i j : Nat} (h : i ≠ j) : (idm i j : K) = 0 := if_neg h
theorem idm_eq {i : Nat} : (idm i i : K) = 1 := if_pos rfl
theorem sp_cols {r n m : Nat} {p f : Nat → Nat} {R : Mx K} (h : Ech r n R p) (hc : Cols r n m p f) {v : Nat → K} : Sp m n (fun k => (idm (f k) : Nat → K)) v ↔ ∀ i, i < r → v (p i) = 0 := by
  refine ⟨fun ⟨c, hv⟩ i hi => ?_, fun hv => ⟨fun k => v (f k), fun j hj => ?_⟩⟩
  · rw [hv _ (h.lt i hi)]
    exact sm_zero fun k hk => by show c k * idm (f k) (p i) = 0; rw [idm_ne (fun e => hc.not i k hi hk e.symm), mul_zero]
  · rcases hc.all j hj with ⟨i, hi, rfl⟩ | ⟨l, hl, rfl⟩
    · rw [hv i hi]
      exact (sm_zero fun k hk => by show v (f k) * idm (f k) (p i) = 0; rw [idm_ne (fun e => hc.not i k hi hk e.symm), mul_zero]).symm
    · rw [sm_one l hl fun k hk hne => by show v (f k) * idm (f k) (f l) = 0; rw [idm_ne (fun e => hne (hc.inj hk hl e)), mul_zero]]
      show v (f l) = v (f l) * idm (f l) (f l)
      rw [idm_eq, mul_one]
theorem whole_sum {r n m : Nat} {p f : Nat → Nat} {R : Mx K} (h : Ech r n R p) (hc : Cols r n m p f) (v : Nat → K) : Sp (r + m) n (stack r R fun k => (idm (f k) : Nat → K)) v :=
  sp_stack.2 ⟨_, prj r R p v, ⟨fun i => v (p i), fun _ _ => rfl⟩, (sp_cols h hc).2 fun i hi => prj_piv h hi, fun j _ => by
    unfold prj
    rw [add_left_comm, add_neg_self, add_zero]⟩
theorem cols_dim {r n m s : Nat} {p f q : Nat → Nat} {R S : Mx K} (h : Ech r n R p) (hc : Cols r n m p f) (hS : Ech s n S q) (e : Same s (r + m) n S (stack r R fun k => (idm (f k) : Nat → K))) : s = n ∧ r + m = n := by
  have h1 : s = n := Nat.le_antisymm hS.le_n (indep_le (A := (idm : Mx K)) (B := S) (n := n) (fun i _ => e.sp.2 (whole_sum h hc _)) fun x hx i hi => by
    have := hx i hi
    rwa [sm_one i hi fun k _ hne => by unfold idm; rw [if_neg hne, mul_zero], idm, if_pos rfl, mul_one] at this)
  refine ⟨h1, ?_⟩
  have h2 := dim_sum (i := 0) (I := R) (pi := p) h (cols_ech hc) hS ⟨fun _ h => absurd h (Nat.not_lt_zero _), fun _ _ _ h => absurd h (Nat.not_lt_zero _), fun _ _ h => absurd h (Nat.not_lt_zero _), fun _ _ h => absurd h (Nat.not_lt_zero _)⟩ e fun v => by
    constructor
    · rintro ⟨c, hv⟩
      exact ⟨Sp.zero.congr (fun _ _ _ _ => rfl) fun j hj => (hv j hj).symm, Sp.zero.congr (fun _ _ _ _ => rfl) fun j hj => (hv j hj).symm⟩
    · rintro ⟨hv, hw⟩
      exact ⟨fun _ => 0, fun j hj => by
        rw [h.coef hv hj]
        exact sm_zero fun i hi => by rw [(sp_cols h hc).1 hw i hi, zero_mul]⟩
  omega

/-- The intersection, as what is orthogonal to both annihilators. -/
theorem sp_inter {n a b a' b' s i : Nat} {A B NA NB S I : Mx K} {pa pb qa qb qi : Nat → Nat} (hA : Ech a n A pa) (hB : Ech b n B pb) (kA : KerOf n a a' (tr A) NA qa) (kB : KerOf n b b' (tr B) NB qb)
    (e : Same s (a' + b') n S (stack a' NA NB)) (kI : KerOf n s i (tr S) I qi) (v : Nat → K) : Sp i n I v ↔ Sp a n A v ∧ Sp b n B v := by
  rw [← kI.sp, perp_perp hA, perp_perp hB, ker_dot]
  constructor
  · intro h
    have h1 : ∀ y, Sp (a' + b') n (stack a' NA NB) y → dot n v y = 0 := fun y hy => by
      rw [dot_comm]
      exact dot_sp (e.sp.2 hy) fun k hk => by rw [dot_comm]; exact h k hk
    exact ⟨fun y hy => h1 y (sp_left ((kA.sp y).1 hy)), fun y hy => h1 y (sp_right ((kB.sp y).1 hy))⟩
  · rintro ⟨h1, h2⟩ k hk
    obtain ⟨u, w, hu, hw, he⟩ := sp_stack.1 (e.lt k hk)
    have : dot n v (S k) = dot n v u + dot n v w := by
      unfold dot
      rw [← sm_add]
      exact sm_congr fun j hj => by rw [he j hj, mul_add]
    rw [this, h1 u ((kA.sp u).2 hu), h2 w ((kB.sp w).2 hw), add_zero]
/-- One subspace within another, by the intersection's dimension. -/
theorem within_dim {n a b i : Nat} {A B I : Mx K} {pa pi : Nat → Nat} (hA : Ech a n A pa) (hI : Ech i n I pi) (eI : ∀ v, Sp i n I v ↔ Sp a n A v ∧ Sp b n B v) : (∀ k, k < a → Sp b n B (A k)) ↔ i = a := by
  constructor
  · intro h
    exact (hI.unique hA ⟨fun k hk => ((eI _).1 (Sp.row hk)).1, fun k hk => (eI _).2 ⟨Sp.row hk, h k hk⟩⟩).1
  · rintro rfl k hk
    exact ((eI _).1 ((hI.eq_dim hA fun k hk => ((eI _).1 (Sp.row hk)).1).rt k hk)).2

/-! ### images and preimages -/
theorem within_image {n m r s a b : Nat} {S T P Q U : Mx K} (eP : Same a r m P (mm n S T)) (hQ : ∀ x, Sp s n Q x ↔ Sp b m U (act n T x)) :
    (∀ k, k < a → Sp b m U (P k)) ↔ ∀ k, k < r → Sp s n Q (S k) := by
  constructor
  · intro h k hk
    exact (hQ _).2 ((eP.rt k hk).trans h)
  · intro h k hk
    exact (eP.lt k hk).trans fun i hi => (hQ _).1 (h i hi)
/-- The preimage, as a kernel. -/
theorem sp_preimage {n m b c s : Nat} {T U N Q : Mx K} {pu qn qq : Nat → Nat} (hU : Ech b m U pu) (kN : KerOf m b c (tr U) N qn) (kQ : KerOf n c s (mm m T (tr N)) Q qq) (x : Nat → K) : Sp s n Q x ↔ Sp b m U (act n T x) := by
  rw [← kQ.sp, perp_perp hU]
  have h1 : ∀ k, (sm n fun i => x i * mm m T (tr N) i k) = dot m (act n T x) (N k) := fun k => by
    unfold dot act
    rw [sm_congr (g := fun i => sm m fun l => x i * T i l * N k l) fun i _ => by
      show x i * sm m (fun l => T i l * N k l) = _
      rw [← sm_mul]
      exact sm_congr fun l _ => (mul_assoc _ _ _).symm, sm_comm]
    exact sm_congr fun l _ => sm_mul' _ _ _
  constructor
  · intro h y hy
    rw [dot_comm]
    exact dot_sp ((kN.sp y).1 hy) fun k hk => by rw [dot_comm, ← h1]; exact h k hk
  · intro h k hk
    rw [h1]
    exact h _ ((kN.sp _).2 (Sp.row hk))
end
end Go.La

/- Heights of subspaces: how many digits their echelon bases have. No condition. -/
namespace Go.La

/-- An integer of at most B. -/
def Iv (B : Nat) (q : Rat) : Prop := ∃ z : Int, q = (z : Rat) ∧ z.natAbs ≤ B
theorem Iv.mono {B C : Nat} {q : Rat} (h : Iv B q) (hB : B ≤ C) : Iv C q := by obtain ⟨z, h1, h2⟩ := h; exact ⟨z, h1, Nat.le_trans h2 hB⟩
theorem Iv.zero {B : Nat} : Iv B 0 := ⟨0, rfl, Nat.zero_le _⟩
theorem Iv.one {B : Nat} (h : 1 ≤ B) : Iv B 1 := ⟨1, rfl, h⟩
theorem Iv.neg {B : Nat} {q : Rat} (h : Iv B q) : Iv B (-q) := by
  obtain ⟨z, rfl, h2⟩ := h
  exact ⟨-z, by rw [Rat.intCast_neg], by rwa [Int.natAbs_neg]⟩
theorem Iv.add {B C : Nat} {p q : Rat} (h : Iv B p) (h' : Iv C q) : Iv (B + C) (p + q) := by
  obtain ⟨z, rfl, h2⟩ := h
  obtain ⟨u, rfl, h3⟩ := h'
  exact ⟨z + u, by rw [Rat.intCast_add], by have := Int.natAbs_add_le z u; omega⟩
theorem Iv.mul {B C : Nat} {p q : Rat} (h : Iv B p) (h' : Iv C q) : Iv (B * C) (p * q) := by
  obtain ⟨z, rfl, h2⟩ := h
  obtain ⟨u, rfl, h3⟩ := h'
  exact ⟨z * u, by rw [Rat.intCast_mul], by rw [Int.natAbs_mul]; exact Nat.mul_le_mul h2 h3⟩
theorem Iv.sm {B : Nat} {f : Nat → Rat} : ∀ {n : Nat}, (∀ k, k < n → Iv B (f k)) → Iv (n * B) (La.sm n f)
  | 0, _ => Iv.zero
  | n + 1, h => by
    have := (Iv.sm (n := n) fun k hk => h k (by omega)).add (h n (by omega))
    rw [Nat.add_mul, Nat.one_mul]
    exact this
def fac : Nat → Nat
  | 0 => 1
  | n + 1 => (n + 1) * fac n
theorem Iv.sgn {B : Nat} {q : Rat} (h : Iv B q) : ∀ k, Iv B (La.sgn k * q)
  | 0 => by show Iv B (1 * q); rw [Rat.one_mul]; exact h
  | k + 1 => by
    have h1 : La.sgn (k + 1) * q = -(La.sgn k * q) := by show -(La.sgn k) * q = _; rw [neg_mul]
    rw [h1]; exact (h.sgn k).neg
theorem Iv.det {B : Nat} : ∀ {n : Nat} {A : Mx Rat}, (∀ i j, i < n → j < n → Iv B (A i j)) → Iv (fac n * B ^ n) (La.det n A)
  | 0, _, _ => by show Iv _ 1; exact Iv.one (by rw [Nat.pow_zero]; decide)
  | n + 1, A, h => by
    have h1 : ∀ j, j < n + 1 → Iv (fac n * B ^ n) (La.det n (minor A j)) := fun j _ => Iv.det fun i k hi hk => h _ _ (by omega) (skip_lt hk)
    have h2 : ∀ j, j < n + 1 → Iv (B * (fac n * B ^ n)) (La.sgn j * (A 0 j * La.det n (minor A j))) := fun j hj => by
      exact ((h 0 j (by omega) hj).mul (h1 j hj)).sgn j
    have h3 := Iv.sm h2
    have e : (n + 1) * (B * (fac n * B ^ n)) = fac (n + 1) * B ^ (n + 1) := by
      show _ = (n + 1) * fac n * (B ^ n * B)
      rw [Nat.mul_assoc (n + 1), Nat.mul_comm (B ^ n) B, Nat.mul_left_comm B]
    rw [e] at h3
    exact h3

/-! ### Cramer's rule -/
theorem Alt.comb_sm {n : Nat} {F : Mx Rat → Rat} (h : Alt n F) {k : Nat} (hk : k < n) (A B : Mx Rat) (c : Nat → Rat) : ∀ N, F (setr A k (fun j => La.sm N fun l => c l * B l j)) = La.sm N fun l => c l * F (setr A k (B l))
  | 0 => by
    have h1 := h.row (A := setr A k (fun _ => 0)) (B := setr A k (fun _ => 0)) (C := setr A k (fun _ => 0)) (t := 1) hk (fun j => by rw [setr_at, one_mul]; exact (zero_add _).symm) (fun i hi => rfl) (fun i hi => rfl)
    rw [one_mul] at h1
    show F (setr A k (fun _ => 0)) = 0
    exact add_self_zero h1.symm
  | N + 1 => by
    rw [h.row (B := setr A k (fun j => La.sm N fun l => c l * B l j)) (C := setr A k (B N)) (t := c N) hk (fun j => by rw [setr_at, setr_at, setr_at]; rfl) (fun i hi => by rw [setr_ne _ _ hi, setr_ne _ _ hi]) (fun i hi => by rw [setr_ne _ _ hi, setr_ne _ _ hi]), h.comb_sm hk A B c N]
    rfl
theorem cramer {n k : Nat} {M : Mx Rat} {x y : Nat → Rat} (hk : k < n) (h : ∀ i, i < n → y i = La.sm n fun l => M i l * x l) : La.det n M * x k = La.det n (setr (tr M) k y) := by
  have h1 : La.det n (setr (tr M) k y) = La.det n (setr (tr M) k (fun j => La.sm n fun l => x l * tr M l j)) := det_congr fun i j hi hj => by
    by_cases e : i = k
    · rw [e, setr_at, setr_at, h j hj]
      exact sm_congr fun l _ => mul_comm _ _
    · rw [setr_ne _ _ e, setr_ne _ _ e]
  rw [h1, (det_alt n).comb_sm hk, sm_one k hk fun l hl hne => by
    rw [(det_alt n).eq hl hk hne (by rw [setr_ne _ _ hne, setr_at]), mul_zero], mul_comm]
  congr 1
  rw [← det_tr n M]
  exact det_congr fun i j _ _ => by
    by_cases e : i = k
    · rw [e, setr_at]
    · rw [setr_ne _ _ e]

/-- Rows that give a determinant that is not 0. -/
theorem pick_rows {m n r : Nat} {A R : Mx Rat} {p : Nat → Nat} (h : Ech r n R p) (e : Same r m n R A) : ∀ k, k ≤ r → ∃ t : Nat → Nat, (∀ i, i < k → t i < m) ∧ La.det k (fun i j => A (t i) (p (k - 1 - j))) ≠ 0
  | 0, _ => ⟨id, fun _ h => absurd h (Nat.not_lt_zero _), one_ne⟩
  | k + 1, hk => by
    obtain ⟨t, ht, hd⟩ := pick_rows h e k (by omega)
    apply Classical.byContradiction
    intro hn
    let T : Nat → Nat → Nat := fun s i => match i with
      | 0 => s
      | i + 1 => t i
    let w : Nat → Rat := fun j => La.sgn j * La.det k (minor (fun i j => A (T 0 i) (p (k - j))) j)
    have h1 : ∀ s, s < m → (La.sm (k + 1) fun j => A s (p (k - j)) * w j) = 0 := fun s hs => Classical.byContradiction fun h0 => hn ⟨T s, fun i hi => by
      match i with
      | 0 => exact hs
      | i + 1 => exact ht i (by omega), fun h2 => h0 (by
        rw [← h2]
        exact sm_congr fun j _ => by
          show A s (p (k - j)) * (La.sgn j * La.det k (minor (fun i j => A (T 0 i) (p (k - j))) j)) = La.sgn j * (A s (p (k + 1 - 1 - j)) * La.det k (minor (fun i j => A (T s i) (p (k + 1 - 1 - j))) j))
          rw [mul_left_comm]
          rfl)⟩
    obtain ⟨c, hc⟩ := e.lt k (by omega)
    have h2 : (La.sm (k + 1) fun j => R k (p (k - j)) * w j) = 0 := by
      rw [sm_congr (g := fun j => La.sm m fun i => c i * (A i (p (k - j)) * w j)) fun j hj => by
        rw [hc _ (h.lt _ (by omega)), ← sm_mul']
        exact sm_congr fun i _ => mul_assoc _ _ _, sm_comm]
      exact sm_zero fun i hi => by rw [sm_mul, h1 i hi, mul_zero]
    rw [sm_one 0 (by omega) fun j hj hne => by rw [h.one k _ (by omega) (by omega), if_neg (by omega), zero_mul], h.one k _ (by omega) (by omega), if_pos (by omega), one_mul] at h2
    refine hd ?_
    have h3 : w 0 = La.det k (fun i j => A (t i) (p (k - 1 - j))) := by
      show 1 * La.det k _ = _
      rw [one_mul]
      exact det_congr fun i j hi hj => by
        show A (T 0 (i + 1)) (p (k - skip 0 j)) = _
        rw [show k - skip 0 j = k - 1 - j by unfold skip; rw [if_neg (by omega)]; omega]
    rw [← h3]; exact h2

/-- R has a common denominator, of at most B, and so are the numerators. -/
def Hgt (B r n : Nat) (R : Mx Rat) : Prop := ∃ D : Rat, D ≠ 0 ∧ Iv B D ∧ ∀ i j, i < r → j < n → Iv B (D * R i j)
theorem Hgt.mono {B C r n : Nat} {R : Mx Rat} (h : Hgt B r n R) (hB : B ≤ C) : Hgt C r n R := by
  obtain ⟨D, h1, h2, h3⟩ := h
  exact ⟨D, h1, h2.mono hB, fun i j hi hj => (h3 i j hi hj).mono hB⟩
theorem Hgt.congr {B r n : Nat} {R S : Mx Rat} (h : Hgt B r n R) (e : ∀ i j, i < r → j < n → R i j = S i j) : Hgt B r n S := by
  obtain ⟨D, h1, h2, h3⟩ := h
  exact ⟨D, h1, h2, fun i j hi hj => by rw [← e i j hi hj]; exact h3 i j hi hj⟩

/-- What integers span has an echelon form of this height. -/
theorem hgt_span {m n r B : Nat} {A R : Mx Rat} {p : Nat → Nat} (hA : ∀ i j, i < m → j < n → Iv B (A i j)) (h : Ech r n R p) (e : Same r m n R A) : Hgt (fac r * B ^ r) r n R := by
  obtain ⟨t, ht, hd⟩ := pick_rows h e r (Nat.le_refl r)
  refine ⟨_, hd, Iv.det fun i j hi hj => hA _ _ (ht i hi) (h.lt _ (by omega)), fun k j hk hj => ?_⟩
  have h1 := cramer (n := r) (k := r - 1 - k) (M := fun i l => A (t i) (p (r - 1 - l))) (x := fun l => R (r - 1 - l) j) (y := fun i => A (t i) j) (by omega) fun i hi => by
    rw [h.coef (e.rt (t i) (ht i hi)) hj]
    -- the sum in the other order
    have rev : ∀ (N : Nat) (f : Nat → Rat), La.sm N f = La.sm N fun l => f (N - 1 - l) := fun N => by
      induction N with
      | zero => exact fun _ => rfl
      | succ N ih =>
        intro f
        rw [sm_left, ih fun k => f (k + 1)]
        show _ = La.sm N (fun l => f (N + 1 - 1 - l)) + f (N + 1 - 1 - N)
        rw [show N + 1 - 1 - N = 0 by omega, add_comm]
        congr 1
        exact sm_congr fun l hl => by rw [show N - 1 - l + 1 = N + 1 - 1 - l by omega]
    rw [rev r]
  have h2 : r - 1 - (r - 1 - k) = k := by omega
  simp only [h2] at h1
  rw [h1]
  exact Iv.det fun i l hi hl => by
    by_cases e1 : i = r - 1 - k
    · rw [e1, setr_at]; exact hA _ _ (ht l hl) hj
    · rw [setr_ne _ _ e1]; exact hA _ _ (ht l hl) (h.lt _ (by omega))

/-- Integers of at most B span the rows of R. -/
def Gen (B r n : Nat) (R : Mx Rat) : Prop := ∃ (m : Nat) (T : Mx Rat), (∀ i j, i < m → j < n → Iv B (T i j)) ∧ Same r m n R T
theorem Gen.mono {B C r n : Nat} {R : Mx Rat} (h : Gen B r n R) (hB : B ≤ C) : Gen C r n R := by
  obtain ⟨m, T, h1, h2⟩ := h
  exact ⟨m, T, fun i j hi hj => (h1 i j hi hj).mono hB, h2⟩
theorem Gen.hgt {B r n : Nat} {R : Mx Rat} {p : Nat → Nat} (h : Gen B r n R) (hE : Ech r n R p) : Hgt (fac r * B ^ r) r n R := by
  obtain ⟨m, T, h1, h2⟩ := h
  exact hgt_span h1 hE h2
theorem Hgt.gen {B r n : Nat} {R : Mx Rat} (h : Hgt B r n R) : Gen B r n R := by
  obtain ⟨D, d1, d2, d3⟩ := h
  refine ⟨r, fun i j => D * R i j, d3, fun i hi => ?_, fun i hi => (Sp.row (A := R) hi).smul D⟩
  refine ((Sp.row (A := fun i j => D * R i j) hi).smul D⁻¹).congr (fun _ _ _ _ => rfl) fun j _ => ?_
  rw [← mul_assoc, inv_mul _ d1, one_mul]
theorem Gen.sum {B a b s n : Nat} {A C S : Mx Rat} (hA : Gen B a n A) (hC : Gen B b n C) (e : Same s (a + b) n S (stack a A C)) : Gen B s n S := by
  obtain ⟨k, T, t1, t2⟩ := hA
  obtain ⟨l, W, w1, w2⟩ := hC
  refine ⟨k + l, stack k T W, fun i j hi hj => ?_, e.trans ⟨fun i hi => ?_, fun i hi => ?_⟩⟩
  · by_cases h : i < k
    · rw [stack_lt h]; exact t1 i j h hj
    · rw [show i = k + (i - k) by omega, stack_add]; exact w1 _ j (by omega) hj
  · by_cases h : i < a
    · rw [stack_lt h]; exact sp_left (t2.lt i h)
    · rw [show i = a + (i - a) by omega, stack_add]; exact sp_right (w2.lt _ (by omega))
  · by_cases h : i < k
    · rw [stack_lt h]; exact sp_left (t2.rt i h)
    · rw [show i = k + (i - k) by omega, stack_add]; exact sp_right (w2.rt _ (by omega))
theorem Hgt.perp {B r s n : Nat} {R N : Mx Rat} {p q : Nat → Nat} (hR : Hgt B r n R) (h : Ech r n R p) (hN : KerOf n r s (tr R) N q) : Gen B s n N := by
  obtain ⟨D, d1, d2, d3⟩ := hR
  obtain ⟨m, f, hc⟩ := Cols.ex r p n
  refine ⟨m, fun k j => D * nul r R p f k j, fun k j hk hj => ?_, fun i hi => ?_, fun k hk => ?_⟩
  · show Iv B (D * nul r R p f k j)
    rcases hc.all j hj with ⟨i, hi, rfl⟩ | ⟨l, hl, rfl⟩
    · rw [nul_piv h hc hk hi, mul_neg]; exact (d3 i _ hi (hc.lt k hk)).neg
    · rw [nul_free hc hk hl]
      split
      · rw [mul_one]; exact d2
      · rw [mul_zero]; exact Iv.zero
  · refine (nul_sp h hc ((hN.sp _).2 (Sp.row hi))).trans fun k hk => ?_
    refine ((Sp.row (A := fun k j => D * nul r R p f k j) hk).smul D⁻¹).congr (fun _ _ _ _ => rfl) fun j _ => ?_
    rw [← mul_assoc, inv_mul _ d1, one_mul]
  · exact ((hN.sp _).1 (nul_ker h hc hk)).smul D

end Go.La
namespace Go.Proofs.YtocjmbilepbokaaGreat
open Go.Hp

/-- The height in words. -/
def Hw (w r n : Nat) (R : Nat → Nat → Rat) : Prop := La.Hgt (4294967296 ^ w - 1) r n R
theorem fac_le : ∀ {n : Nat}, n ≤ 6 → La.fac n ≤ 4294967295
  | 0, _ | 1, _ | 2, _ | 3, _ | 4, _ | 5, _ | 6, _ => by decide
  | n + 7, h => by omega
theorem hw_pow {r w : Nat} (hr : r ≤ 6) : La.fac r * (4294967296 ^ w - 1) ^ r ≤ 4294967296 ^ (6 * w + 1) - 1 := by
  have h1 : (4294967296 ^ w - 1) ^ r ≤ 4294967296 ^ (6 * w) := by
    refine Nat.le_trans (Nat.pow_le_pow_left (Nat.sub_le _ 1) r) ?_
    rw [← Nat.pow_mul]
    exact Nat.pow_le_pow_right (by decide) (by rw [Nat.mul_comm]; exact Nat.mul_le_mul_right w hr)
  have h2 := Nat.mul_le_mul (fac_le hr) h1
  have h3 : 0 < 4294967296 ^ (6 * w) := Nat.pow_pos (by decide)
  rw [Nat.pow_succ, Nat.mul_comm (4294967296 ^ (6 * w))]
  omega
theorem Hw.mono {w v r n : Nat} {R : Nat → Nat → Rat} (h : Hw w r n R) (hw : w ≤ v) : Hw v r n R := La.Hgt.mono h (Nat.sub_le_sub_right (Nat.pow_le_pow_right (by decide) hw) 1)
theorem Hw.congr {w r n : Nat} {R S : Nat → Nat → Rat} (h : Hw w r n R) (e : ∀ i j, i < r → j < n → R i j = S i j) : Hw w r n S := La.Hgt.congr h e
/-- Integers of w words span the rows of R. -/
def Gw (w r n : Nat) (R : Nat → Nat → Rat) : Prop := La.Gen (4294967296 ^ w - 1) r n R
theorem Gw.mono {w v r n : Nat} {R : Nat → Nat → Rat} (h : Gw w r n R) (hw : w ≤ v) : Gw v r n R := La.Gen.mono h (Nat.sub_le_sub_right (Nat.pow_le_pow_right (by decide) hw) 1)
theorem Hw.gen {w r n : Nat} {R : Nat → Nat → Rat} (h : Hw w r n R) : Gw w r n R := La.Hgt.gen h
theorem Gw.hw {w r n : Nat} {R : Nat → Nat → Rat} {p : Nat → Nat} (h : Gw w r n R) (hE : La.Ech r n R p) (hn : n ≤ 6) : Hw (6 * w + 1) r n R := La.Hgt.mono (La.Gen.hgt h hE) (hw_pow (Nat.le_trans hE.le_n hn))
theorem Gw.sum {w a b s n : Nat} {A C S : Nat → Nat → Rat} (hA : Gw w a n A) (hC : Gw w b n C) (e : La.Same s (a + b) n S (La.stack a A C)) : Gw w s n S := La.Gen.sum hA hC e
theorem Hw.perp {w r s n : Nat} {R N : Nat → Nat → Rat} {p q : Nat → Nat} (hR : Hw w r n R) (h : La.Ech r n R p) (hN : La.KerOf n r s (La.tr R) N q) : Gw w s n N := La.Hgt.perp hR h hN

theorem pow_pos' (w : Nat) : 0 < 4294967296 ^ w := Nat.pow_pos (by decide)
theorem Hw.szq {w r n i j : Nat} {R : Nat → Nat → Rat} (h : Hw w r n R) (hw : 1 ≤ w) (hi : i < r) (hj : j < n) : Szq (R i j) w := by
  obtain ⟨D, h1, ⟨d, rfl, h2⟩, h3⟩ := h
  obtain ⟨z, h4, h5⟩ := h3 i j hi hj
  have hp := pow_pos' w
  have e : R i j = Rat.divInt z d := by
    rw [Rat.divInt_eq_div, ← h4, Rat.div_def, Rat.mul_comm (d : Rat), Rat.mul_assoc, Rat.mul_inv_cancel _ h1, Rat.mul_one]
  rw [e]
  exact szq_div (by unfold Sz; omega) (by unfold Sz; omega) hw

/-- Some fractions of few digits have a common denominator. -/
theorem common {a : Nat} : ∀ (N : Nat) (f : Nat → Rat), (∀ k, k < N → Szq (f k) a) → ∃ D : Rat, D ≠ 0 ∧ La.Iv (4294967296 ^ (a * N)) D ∧ ∀ k, k < N → La.Iv (4294967296 ^ a * 4294967296 ^ (a * N)) (D * f k)
  | 0, _, _ => ⟨1, by decide, La.Iv.one (by simp), fun _ h => absurd h (Nat.not_lt_zero _)⟩
  | N + 1, f, h => by
    obtain ⟨D, h1, h2, h3⟩ := common N f fun k hk => h k (by omega)
    have hs := h N (by omega)
    have hd : La.Iv (4294967296 ^ a) ((f N).den : Rat) := ⟨((f N).den : Int), rfl, by have := hs.2; unfold Sz at this; omega⟩
    have hm : La.Iv (4294967296 ^ a) ((f N).num : Rat) := ⟨(f N).num, rfl, by have := hs.1; unfold Sz at this; omega⟩
    have h0 : ((f N).den : Rat) ≠ 0 := fun e => by
      have h4 := (f N).den_nz
      exact h4 (by exact_mod_cast e)
    have e1 : 4294967296 ^ (a * N) * 4294967296 ^ a = 4294967296 ^ (a * (N + 1)) := by rw [← Nat.pow_add, Nat.mul_add, Nat.mul_one]
    have e2 : ((f N).den : Rat) * f N = ((f N).num : Rat) := by
      have h4 : f N = ((f N).num : Rat) / (((f N).den : Int) : Rat) := by rw [← Rat.divInt_eq_div, Rat.num_divInt_den]
      have key : ∀ (d x n : Rat), d ≠ 0 → x = n / d → d * x = n := fun d x n h e => by rw [e, Rat.div_def, Rat.mul_comm, Rat.mul_assoc, Rat.inv_mul_cancel _ h, Rat.mul_one]
      exact key _ _ _ h0 h4
    refine ⟨D * ((f N).den : Rat), La.mul_ne h1 h0, ?_, fun k hk => ?_⟩
    · rw [← e1]; exact h2.mul hd
    · rcases Nat.lt_or_eq_of_le (Nat.le_of_lt_succ hk) with h5 | h5
      · have := (h3 k h5).mul hd
        rw [Rat.mul_assoc, Rat.mul_comm ((f N).den : Rat), ← Rat.mul_assoc, ← e1, ← Nat.mul_assoc]
        exact this
      · subst h5
        rw [Rat.mul_assoc, e2]
        refine (h2.mul hm).mono ?_
        rw [e1]
        exact Nat.le_mul_of_pos_left _ (pow_pos' a)

/-- A basis of short fractions. -/
theorem hw_short {a r n : Nat} {R : Nat → Nat → Rat} (hs : ∀ i j, i < r → j < n → Szq (R i j) a) (hr : r ≤ 6) (hn : n ≤ 6) : Hw (a * 37 + 1) r n R := by
  obtain ⟨D, h1, h2, h3⟩ := common (r * n) (fl n R) fun k hk => hs _ _ (fl_lt hk).1 (fl_lt hk).2
  have hrn : r * n ≤ 36 := Nat.mul_le_mul hr hn
  have h37 : a * (r * n) ≤ a * 36 := Nat.mul_le_mul_left a hrn
  have e : ∀ k, k ≤ a * 37 → 4294967296 ^ k ≤ 4294967296 ^ (a * 37 + 1) - 1 := fun k hk => by
    have h4 : 4294967296 ^ k ≤ 4294967296 ^ (a * 37) := Nat.pow_le_pow_right (by decide) hk
    have := pow_pos' (a * 37)
    rw [Nat.pow_succ]; omega
  refine ⟨D, h1, h2.mono (e _ (by omega)), fun i j hi hj => ?_⟩
  have := h3 _ (ij_lt hi hj)
  rw [fl_at hj] at this
  refine this.mono ?_
  rw [← Nat.pow_add]
  exact e _ (by omega)

/-! ### products and kernels -/
theorem Hw.tr {w r n : Nat} {R : Nat → Nat → Rat} (h : Hw w r n R) : Hw w n r (La.tr R) := by
  obtain ⟨D, h1, h2, h3⟩ := h
  exact ⟨D, h1, h2, fun i j hi hj => h3 j i hj hi⟩
theorem one_less {a b : Nat} (ha : 0 < a) (hb : 0 < b) : (a - 1) * (b - 1) ≤ a * b - 1 := by
  obtain ⟨a, rfl⟩ : ∃ x, a = x + 1 := ⟨a - 1, by omega⟩
  obtain ⟨b, rfl⟩ : ∃ x, b = x + 1 := ⟨b - 1, by omega⟩
  have h : (a + 1) * (b + 1) = a * b + a + b + 1 := by rw [Nat.add_mul, Nat.mul_add, Nat.one_mul, Nat.mul_one]; omega
  rw [h, Nat.add_sub_cancel, Nat.add_sub_cancel]
  omega
theorem hw_mm {w v r n m : Nat} {B T : Nat → Nat → Rat} (hB : Hw w r n B) (hT : Hw v n m T) (hn : n ≤ 6) : Hw (w + v + 1) r m (La.mm n B T) := by
  obtain ⟨D, h1, h2, h3⟩ := hB
  obtain ⟨F, f1, f2, f3⟩ := hT
  have p1 := pow_pos' w
  have p2 := pow_pos' v
  have hp : (4294967296 ^ w - 1) * (4294967296 ^ v - 1) ≤ 4294967296 ^ (w + v) - 1 := by
    rw [Nat.pow_add]
    exact one_less p1 p2
  have p3 := pow_pos' (w + v)
  have hq : 6 * (4294967296 ^ (w + v) - 1) ≤ 4294967296 ^ (w + v + 1) - 1 := by rw [Nat.pow_succ]; omega
  refine ⟨D * F, La.mul_ne h1 f1, (h2.mul f2).mono (by omega), fun i j hi hj => ?_⟩
  have e : D * F * La.mm n B T i j = La.sm n fun k => (D * B i k) * (F * T k j) := by
    unfold La.mm
    rw [← La.sm_mul]
    exact La.sm_congr fun k _ => by rw [La.mul_assoc, La.mul_assoc, La.mul_left_comm F]
  rw [e]
  refine (La.Iv.sm fun k hk => (h3 i k hi hk).mul (f3 k j hk hj)).mono ?_
  exact Nat.le_trans (Nat.mul_le_mul hn hp) hq
theorem ker_gen {w n c s : Nat} {W Q : Nat → Nat → Rat} {q : Nat → Nat} (hQ : La.KerOf n c s W Q q) (hW : Hw w n c W) (hw : 1 ≤ w) (hn : n ≤ 6) : Gw (6 * w + 1) s n Q := by
  obtain ⟨r, R, p, e1, e2, -⟩ := ech_small (A := La.tr W) (m := c) (n := n) (k := w) fun i j hi hj => hW.tr.szq hw hi hj
  have h1 : Gw w r n R := by
    obtain ⟨m, T, t1, t2⟩ := hW.tr.gen
    exact ⟨m, T, t1, e2.trans t2⟩
  refine (h1.hw e1 hn).perp (p := p) (q := q) e1 ⟨hQ.ech, fun x => ?_⟩
  rw [← hQ.sp]
  constructor
  · intro h j hj
    have h3 : La.dot n (La.tr W j) x = 0 := La.dot_sp (e2.rt j hj) fun i hi => by rw [La.dot_comm]; exact h i hi
    rw [La.dot_comm] at h3
    exact h3
  · intro h
    refine La.ker_dot.2 fun i hi => ?_
    rw [La.dot_comm]
    exact La.dot_sp (e2.lt i hi) fun j hj => by rw [La.dot_comm]; exact h j hj

end Go.Proofs.YtocjmbilepbokaaGreat
