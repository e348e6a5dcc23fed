/- Texts of this seat's own, merged: each begins with its own remark. -/
import Derived.Test.YtpigpikhjlmdoaaGreatM34
import Derived.Test.YtpigpikhjlmdoaaGreatM19
import Derived.Test.YtpigpikhjlmdoaaGreatLi
/- Subspaces: columns without a pivot, annihilators, sums and intersections. No condition. -/
namespace Go.La
section
variable {K : Type} [Fld K]
def dot (n : Nat) (x y : Nat → K) : K := sm n fun j => x j * y j
theorem ker_dot {n r : Nat} {R : Mx K} {x : Nat → K} : Ker n r (tr R) x ↔ ∀ i, i < r → dot n x (R i) = 0 := Iff.rfl
structure Cols (r n m : Nat) (p f : Nat → Nat) : Prop where
  lt : ∀ k, k < m → f k < n
  mono : ∀ i k, i < k → k < m → f i < f k
  not : ∀ i k, i < r → k < m → p i ≠ f k
  all : ∀ j, j < n → (∃ i, i < r ∧ p i = j) ∨ ∃ k, k < m ∧ f k = j
theorem Cols.start {r : Nat} {p f : Nat → Nat} : Cols r 0 0 p f :=
  ⟨fun _ h => absurd h (Nat.not_lt_zero _), fun _ _ _ h => absurd h (Nat.not_lt_zero _), fun _ _ _ h => absurd h (Nat.not_lt_zero _), fun _ h => absurd h (Nat.not_lt_zero _)⟩
theorem Cols.pass {r n m : Nat} {p f : Nat → Nat} (h : Cols r n m p f) (e : ∃ i, i < r ∧ p i = n) : Cols r (n + 1) m p f :=
  ⟨fun k hk => Nat.lt_succ_of_lt (h.lt k hk), h.mono, h.not, fun j hj => by
    rcases Nat.lt_or_eq_of_le (Nat.le_of_lt_succ hj) with h1 | h1
    · exact h.all j h1
    · exact .inl (h1 ▸ e)⟩
theorem Cols.more {r n m : Nat} {p f f' : Nat → Nat} (h : Cols r n m p f) (e : ¬ ∃ i, i < r ∧ p i = n) (h1 : ∀ k, k < m → f' k = f k) (h2 : f' m = n) : Cols r (n + 1) (m + 1) p f' := by
  have key : ∀ k, k < m + 1 → (k < m ∧ f' k = f k) ∨ (k = m ∧ f' k = n) := fun k hk => by
    rcases Nat.lt_or_eq_of_le (Nat.le_of_lt_succ hk) with h3 | h3
    · exact .inl ⟨h3, h1 k h3⟩
    · exact .inr ⟨h3, h3 ▸ h2⟩
  refine ⟨fun k hk => ?_, fun i k hik hk => ?_, fun i k hi hk => ?_, fun j hj => ?_⟩
  · rcases key k hk with ⟨h3, h4⟩ | ⟨-, h4⟩
    · have := h.lt k h3; omega
    · omega
  · rcases key i (by omega) with ⟨h3, h4⟩ | ⟨h3, -⟩
    · have h5 := h.lt i h3
      rcases key k hk with ⟨h6, h7⟩ | ⟨-, h7⟩
      · rw [h4, h7]; exact h.mono i k hik h6
      · omega
    · omega
  · rcases key k hk with ⟨h3, h4⟩ | ⟨-, h4⟩
    · rw [h4]; exact h.not i k hi h3
    · rw [h4]; exact fun h5 => e ⟨i, hi, h5⟩
  · rcases Nat.lt_or_eq_of_le (Nat.le_of_lt_succ hj) with h3 | h3
    · rcases h.all j h3 with h4 | ⟨k, hk, h4⟩
      · exact .inl h4
      · exact .inr ⟨k, by omega, by rw [h1 k hk]; exact h4⟩
    · exact .inr ⟨m, by omega, by rw [h2, h3]⟩
theorem Cols.ex (r : Nat) (p : Nat → Nat) : ∀ n, ∃ m f, Cols r n m p f
  | 0 => ⟨0, id, Cols.start⟩
  | n + 1 => by
    obtain ⟨m, f, h⟩ := Cols.ex r p n
    by_cases e : ∃ i, i < r ∧ p i = n
    · exact ⟨m, f, h.pass e⟩
    · exact ⟨m + 1, fun k => if k < m then f k else n, h.more e (fun k hk => if_pos hk) (if_neg (Nat.lt_irrefl m))⟩
theorem Cols.inj {r n m : Nat} {p f : Nat → Nat} (h : Cols r n m p f) {i k : Nat} (hi : i < m) (hk : k < m) (e : f i = f k) : i = k := by
  rcases Nat.lt_trichotomy i k with h1 | h1 | h1
  · have := h.mono i k h1 hk; omega
  · exact h1
  · have := h.mono k i h1 hi; omega
theorem Cols.congr {r n m : Nat} {p p' f : Nat → Nat} (h : Cols r n m p f) (e : ∀ i, i < r → p i = p' i) : Cols r n m p' f :=
  ⟨h.lt, h.mono, fun i k hi hk => by rw [← e i hi]; exact h.not i k hi hk, fun j hj => by
    rcases h.all j hj with ⟨i, hi, h1⟩ | h1
    · exact .inl ⟨i, hi, by rw [← e i hi]; exact h1⟩
    · exact .inr h1⟩
theorem Cols.unique {r n m m' : Nat} {p f f' : Nat → Nat} (h : Cols r n m p f) (h' : Cols r n m' p f') : m = m' ∧ ∀ k, k < m → f k = f' k :=
  mono_eq h.mono h'.mono (fun k hk => by
    rcases h'.all _ (h.lt k hk) with ⟨i, hi, h1⟩ | h1
    · exact absurd h1 (h.not i k hi hk)
    · exact h1) (fun k hk => by
    rcases h.all _ (h'.lt k hk) with ⟨i, hi, h1⟩ | h1
    · exact absurd h1 (h'.not i k hi hk)
    · exact h1)
theorem Ech.inj {r n : Nat} {R : Mx K} {p : Nat → Nat} (h : Ech r n R p) {i k : Nat} (hi : i < r) (hk : k < r) (e : p i = p k) : i = k := by
  rcases Nat.lt_trichotomy i k with h1 | h1 | h1
  · have := h.mono i k h1 hk; omega
  · exact h1
  · have := h.mono k i h1 hi; omega
theorem Ech.split {r n m : Nat} {R : Mx K} {p f : Nat → Nat} (h : Ech r n R p) (hc : Cols r n m p f) {L : Type} [Fld L] (g : Nat → L) : sm n g = (sm r fun i => g (p i)) + sm m fun k => g (f k) := by
  have key : ∀ j, j < n → g j = (sm r fun i => if p i = j then g j else 0) + sm m fun k => if f k = j then g j else 0 := fun j hj => by
    rcases hc.all j hj with ⟨i, hi, rfl⟩ | ⟨k, hk, rfl⟩
    · rw [sm_one i hi fun a ha hne => if_neg fun e => hne (h.inj ha hi e), if_pos rfl, sm_zero fun k hk => if_neg fun e => hc.not i k hi hk e.symm, add_zero]
    · rw [sm_zero fun i hi => if_neg (hc.not i k hi hk), sm_one k hk fun a ha hne => if_neg fun e => hne (hc.inj ha hk e), if_pos rfl, zero_add]
  rw [sm_congr key, sm_add, sm_comm, sm_comm n m]
  congr 1
  · exact sm_congr fun i hi => by rw [sm_one (p i) (h.lt i hi) fun j _ hne => if_neg (Ne.symm hne), if_pos rfl]
  · exact sm_congr fun k hk => by rw [sm_one (f k) (hc.lt k hk) fun j _ hne => if_neg (Ne.symm hne), if_pos rfl]
def nul (r : Nat) (R : Mx K) (p f : Nat → Nat) : Mx K := fun k j => if j = f k then 1 else sm r fun i => if p i = j then -(R i (f k)) else 0
theorem nul_free {r n m : Nat} {R : Mx K} {p f : Nat → Nat} (hc : Cols r n m p f) {k l : Nat} (hk : k < m) (hl : l < m) : nul r R p f k (f l) = if l = k then 1 else 0 := by
  unfold nul
  by_cases e : l = k
  · rw [if_pos (by rw [e]), if_pos e]
  · rw [if_neg (fun h => e (hc.inj hl hk h)), if_neg e]
    exact sm_zero fun i hi => if_neg (hc.not i l hi hl)
theorem nul_piv {r n m : Nat} {R : Mx K} {p f : Nat → Nat} (h : Ech r n R p) (hc : Cols r n m p f) {k i : Nat} (hk : k < m) (hi : i < r) : nul r R p f k (p i) = -(R i (f k)) := by
  unfold nul
  rw [if_neg (hc.not i k hi hk), sm_one i hi fun a ha hne => if_neg fun e => hne (h.inj ha hi e), if_pos rfl]
theorem Ech.dot {r n m : Nat} {R : Mx K} {p f : Nat → Nat} (h : Ech r n R p) (hc : Cols r n m p f) {x : Nat → K} {i : Nat} (hi : i < r) : dot n x (R i) = x (p i) + sm m fun k => x (f k) * R i (f k) := by
  show sm n (fun j => x j * R i j) = _
  rw [h.split hc, sm_one i hi fun a ha hne => by rw [h.one i a hi ha, if_neg (Ne.symm hne), mul_zero], h.one i i hi hi, if_pos rfl, mul_one]
theorem nul_ker {r n m : Nat} {R : Mx K} {p f : Nat → Nat} (h : Ech r n R p) (hc : Cols r n m p f) {k : Nat} (hk : k < m) : Ker n r (tr R) (nul r R p f k) := ker_dot.2 fun i hi => by
  rw [h.dot hc hi, nul_piv h hc hk hi, sm_one k hk fun l hl hne => by rw [nul_free hc hk hl, if_neg hne, zero_mul], nul_free hc hk hk, if_pos rfl, one_mul, neg_add_self]
theorem nul_sp {r n m : Nat} {R : Mx K} {p f : Nat → Nat} (h : Ech r n R p) (hc : Cols r n m p f) {x : Nat → K} (hx : Ker n r (tr R) x) : Sp m n (nul r R p f) x := by
  refine ⟨fun k => x (f k), fun j hj => ?_⟩
  rcases hc.all j hj with ⟨i, hi, rfl⟩ | ⟨l, hl, rfl⟩
  · have h1 := (ker_dot.1 hx) i hi
    rw [h.dot hc hi] at h1
    rw [sm_congr (g := fun k => -(x (f k) * R i (f k))) fun k hk => by rw [nul_piv h hc hk hi, mul_neg], sm_neg]
    rw [add_comm] at h1
    exact eq_neg h1
  · rw [sm_one l hl fun k hk hne => by rw [nul_free hc hk hl, if_neg (Ne.symm hne), mul_zero], nul_free hc hl hl, if_pos rfl, mul_one]
theorem nul_indep {r n m : Nat} {R : Mx K} {p f : Nat → Nat} (hc : Cols r n m p f) {x : Nat → K} (hx : ∀ j, j < n → sm m (fun k => x k * nul r R p f k j) = 0) : ∀ k, k < m → x k = 0 := fun k hk => by
  have h1 := hx (f k) (hc.lt k hk)
  rwa [sm_one k hk fun l hl hne => by rw [nul_free hc hl hk, if_neg (Ne.symm hne), mul_zero], nul_free hc hk hk, if_pos rfl, mul_one] at h1
theorem KerOf.cols {r n m s : Nat} {R N : Mx K} {p q f : Nat → Nat} (h : Ech r n R p) (hc : Cols r n m p f) (hN : KerOf n r s (tr R) N q) : s = m :=
  Nat.le_antisymm (hN.ech.le fun _ hi => nul_sp h hc ((hN.sp _).2 (Sp.row hi))) (indep_le (fun _ hk => (hN.sp _).1 (nul_ker h hc hk)) fun _ hx => nul_indep hc hx)
theorem sp_stack {r s n : Nat} {A B : Mx K} {v : Nat → K} : Sp (r + s) n (stack r A B) v ↔ ∃ u w, Sp r n A u ∧ Sp s n B w ∧ ∀ j, j < n → v j = u j + w j := by
  constructor
  · rintro ⟨c, hc⟩
    refine ⟨_, _, ⟨c, fun _ _ => rfl⟩, ⟨fun i => c (r + i), fun _ _ => rfl⟩, fun j hj => ?_⟩
    rw [hc j hj, sm_app]
    congr 1
    · exact sm_congr fun i hi => by rw [stack_lt hi]
    · exact sm_congr fun i _ => by rw [stack_add]
  · rintro ⟨u, w, ⟨c, hc⟩, ⟨d, hd⟩, h⟩
    refine ⟨fun i => if i < r then c i else d (i - r), fun j hj => ?_⟩
    rw [h j hj, hc j hj, hd j hj, sm_app]
    congr 1
    · exact sm_congr fun i hi => by show _ = (if i < r then _ else _) * _; rw [if_pos hi, stack_lt hi]
    · exact sm_congr fun i _ => by show _ = (if r + i < r then _ else d (r + i - r)) * _; rw [if_neg (by omega), Nat.add_sub_cancel_left, stack_add]
theorem sp_left {r s n : Nat} {A B : Mx K} {v : Nat → K} (h : Sp r n A v) : Sp (r + s) n (stack r A B) v := sp_stack.2 ⟨v, fun _ => 0, h, Sp.zero, fun _ _ => (add_zero _).symm⟩
theorem sp_right {r s n : Nat} {A B : Mx K} {v : Nat → K} (h : Sp s n B v) : Sp (r + s) n (stack r A B) v := sp_stack.2 ⟨fun _ => 0, v, Sp.zero, h, fun _ _ => (zero_add _).symm⟩
end
end Go.La

/- Heights of subspaces: how many digits their echelon bases have. No condition. -/
namespace Go.La
def Iv (B : Nat) (q : Rat) : Prop := ∃ z : Int, q = (z : Rat) ∧ z.natAbs ≤ B
theorem Iv.mono {B C : Nat} {q : Rat} (h : Iv B q) (hB : B ≤ C) : Iv C q := by obtain ⟨z, h1, h2⟩ := h; exact ⟨z, h1, Nat.le_trans h2 hB⟩
theorem Iv.zero {B : Nat} : Iv B 0 := ⟨0, rfl, Nat.zero_le _⟩
theorem Iv.one {B : Nat} (h : 1 ≤ B) : Iv B 1 := ⟨1, rfl, h⟩
theorem Iv.neg {B : Nat} {q : Rat} (h : Iv B q) : Iv B (-q) := by
  obtain ⟨z, rfl, h2⟩ := h
  exact ⟨-z, by rw [Rat.intCast_neg], by rwa [Int.natAbs_neg]⟩
theorem Iv.add {B C : Nat} {p q : Rat} (h : Iv B p) (h' : Iv C q) : Iv (B + C) (p + q) := by
  obtain ⟨z, rfl, h2⟩ := h
  obtain ⟨u, rfl, h3⟩ := h'
  exact ⟨z + u, by rw [Rat.intCast_add], by have := Int.natAbs_add_le z u; omega⟩
theorem Iv.mul {B C : Nat} {p q : Rat} (h : Iv B p) (h' : Iv C q) : Iv (B * C) (p * q) := by
  obtain ⟨z, rfl, h2⟩ := h
  obtain ⟨u, rfl, h3⟩ := h'
  exact ⟨z * u, by rw [Rat.intCast_mul], by rw [Int.natAbs_mul]; exact Nat.mul_le_mul h2 h3⟩
theorem Iv.sm {B : Nat} {f : Nat → Rat} : ∀ {n : Nat}, (∀ k, k < n → Iv B (f k)) → Iv (n * B) (La.sm n f)
  | 0, _ => Iv.zero
  | n + 1, h => by
    have := (Iv.sm (n := n) fun k hk => h k (by omega)).add (h n (by omega))
    rw [Nat.add_mul, Nat.one_mul]
    exact this
def fac : Nat → Nat
  | 0 => 1
  | n + 1 => (n + 1) * fac n
theorem Iv.sgn {B : Nat} {q : Rat} (h : Iv B q) : ∀ k, Iv B (La.sgn k * q)
  | 0 => by show Iv B (1 * q); rw [Rat.one_mul]; exact h
  | k + 1 => by
    have h1 : La.sgn (k + 1) * q = -(La.sgn k * q) := by show -(La.sgn k) * q = _; rw [neg_mul]
    rw [h1]; exact (h.sgn k).neg
theorem Iv.det {B : Nat} : ∀ {n : Nat} {A : Mx Rat}, (∀ i j, i < n → j < n → Iv B (A i j)) → Iv (fac n * B ^ n) (La.det n A)
  | 0, _, _ => by show Iv _ 1; exact Iv.one (by rw [Nat.pow_zero]; decide)
  | n + 1, A, h => by
    have h1 : ∀ j, j < n + 1 → Iv (fac n * B ^ n) (La.det n (minor A j)) := fun j _ => Iv.det fun i k hi hk => h _ _ (by omega) (skip_lt hk)
    have h2 : ∀ j, j < n + 1 → Iv (B * (fac n * B ^ n)) (La.sgn j * (A 0 j * La.det n (minor A j))) := fun j hj => by
      exact ((h 0 j (by omega) hj).mul (h1 j hj)).sgn j
    have h3 := Iv.sm h2
    have e : (n + 1) * (B * (fac n * B ^ n)) = fac (n + 1) * B ^ (n + 1) := by
      show _ = (n + 1) * fac n * (B ^ n * B)
      rw [Nat.mul_assoc (n + 1), Nat.mul_comm (B ^ n) B, Nat.mul_left_comm B]
    rw [e] at h3
    exact h3
theorem Alt.comb_sm {n : Nat} {F : Mx Rat → Rat} (h : Alt n F) {k : Nat} (hk : k < n) (A B : Mx Rat) (c : Nat → Rat) : ∀ N, F (setr A k (fun j => La.sm N fun l => c l * B l j)) = La.sm N fun l => c l * F (setr A k (B l))
  | 0 => by
    have h1 := h.row (A := setr A k (fun _ => 0)) (B := setr A k (fun _ => 0)) (C := setr A k (fun _ => 0)) (t := 1) hk (fun j => by rw [setr_at, one_mul]; exact (zero_add _).symm) (fun i hi => rfl) (fun i hi => rfl)
    rw [one_mul] at h1
    show F (setr A k (fun _ => 0)) = 0
    exact add_self_zero h1.symm
  | N + 1 => by
    rw [h.row (B := setr A k (fun j => La.sm N fun l => c l * B l j)) (C := setr A k (B N)) (t := c N) hk (fun j => by rw [setr_at, setr_at, setr_at]; rfl) (fun i hi => by rw [setr_ne _ _ hi, setr_ne _ _ hi]) (fun i hi => by rw [setr_ne _ _ hi, setr_ne _ _ hi]), h.comb_sm hk A B c N]
    rfl
theorem cramer {n k : Nat} {M : Mx Rat} {x y : Nat → Rat} (hk : k < n) (h : ∀ i, i < n → y i = La.sm n fun l => M i l * x l) : La.det n M * x k = La.det n (setr (tr M) k y) := by
  have h1 : La.det n (setr (tr M) k y) = La.det n (setr (tr M) k (fun j => La.sm n fun l => x l * tr M l j)) := det_congr fun i j hi hj => by
    by_cases e : i = k
    · rw [e, setr_at, setr_at, h j hj]
      exact sm_congr fun l _ => mul_comm _ _
    · rw [setr_ne _ _ e, setr_ne _ _ e]
  rw [h1, (det_alt n).comb_sm hk, sm_one k hk fun l hl hne => by
    rw [(det_alt n).eq hl hk hne (by rw [setr_ne _ _ hne, setr_at]), mul_zero], mul_comm]
  congr 1
  rw [← det_tr n M]
  exact det_congr fun i j _ _ => by
    by_cases e : i = k
    · rw [e, setr_at]
    · rw [setr_ne _ _ e]
theorem pick_rows {m n r : Nat} {A R : Mx Rat} {p : Nat → Nat} (h : Ech r n R p) (e : Same r m n R A) : ∀ k, k ≤ r → ∃ t : Nat → Nat, (∀ i, i < k → t i < m) ∧ La.det k (fun i j => A (t i) (p (k - 1 - j))) ≠ 0
  | 0, _ => ⟨id, fun _ h => absurd h (Nat.not_lt_zero _), one_ne⟩
  | k + 1, hk => by
    obtain ⟨t, ht, hd⟩ := pick_rows h e k (by omega)
    apply Classical.byContradiction
    intro hn
    let T : Nat → Nat → Nat := fun s i => match i with
      | 0 => s
      | i + 1 => t i
    let w : Nat → Rat := fun j => La.sgn j * La.det k (minor (fun i j => A (T 0 i) (p (k - j))) j)
    have h1 : ∀ s, s < m → (La.sm (k + 1) fun j => A s (p (k - j)) * w j) = 0 := fun s hs => Classical.byContradiction fun h0 => hn ⟨T s, fun i hi => by
      match i with
      | 0 => exact hs
      | i + 1 => exact ht i (by omega), fun h2 => h0 (by
        rw [← h2]
        exact sm_congr fun j _ => by
          show A s (p (k - j)) * (La.sgn j * La.det k (minor (fun i j => A (T 0 i) (p (k - j))) j)) = La.sgn j * (A s (p (k + 1 - 1 - j)) * La.det k (minor (fun i j => A (T s i) (p (k + 1 - 1 - j))) j))
          rw [mul_left_comm]
          rfl)⟩
    obtain ⟨c, hc⟩ := e.lt k (by omega)
    have h2 : (La.sm (k + 1) fun j => R k (p (k - j)) * w j) = 0 := by
      rw [sm_congr (g := fun j => La.sm m fun i => c i * (A i (p (k - j)) * w j)) fun j hj => by
        rw [hc _ (h.lt _ (by omega)), ← sm_mul']
        exact sm_congr fun i _ => mul_assoc _ _ _, sm_comm]
      exact sm_zero fun i hi => by rw [sm_mul, h1 i hi, mul_zero]
    rw [sm_one 0 (by omega) fun j hj hne => by rw [h.one k _ (by omega) (by omega), if_neg (by omega), zero_mul], h.one k _ (by omega) (by omega), if_pos (by omega), one_mul] at h2
    refine hd ?_
    have h3 : w 0 = La.det k (fun i j => A (t i) (p (k - 1 - j))) := by
      show 1 * La.det k _ = _
      rw [one_mul]
      exact det_congr fun i j hi hj => by
        show A (T 0 (i + 1)) (p (k - skip 0 j)) = _
        rw [show k - skip 0 j = k - 1 - j by unfold skip; rw [if_neg (by omega)]; omega]
    rw [← h3]; exact h2
def Hgt (B r n : Nat) (R : Mx Rat) : Prop := ∃ D : Rat, D ≠ 0 ∧ Iv B D ∧ ∀ i j, i < r → j < n → Iv B (D * R i j)
theorem Hgt.mono {B C r n : Nat} {R : Mx Rat} (h : Hgt B r n R) (hB : B ≤ C) : Hgt C r n R := by
  obtain ⟨D, h1, h2, h3⟩ := h
  exact ⟨D, h1, h2.mono hB, fun i j hi hj => (h3 i j hi hj).mono hB⟩
theorem Hgt.congr {B r n : Nat} {R S : Mx Rat} (h : Hgt B r n R) (e : ∀ i j, i < r → j < n → R i j = S i j) : Hgt B r n S := by
  obtain ⟨D, h1, h2, h3⟩ := h
  exact ⟨D, h1, h2, fun i j hi hj => by rw [← e i j hi hj]; exact h3 i j hi hj⟩
theorem hgt_span {m n r B : Nat} {A R : Mx Rat} {p : Nat → Nat} (hA : ∀ i j, i < m → j < n → Iv B (A i j)) (h : Ech r n R p) (e : Same r m n R A) : Hgt (fac r * B ^ r) r n R := by
  obtain ⟨t, ht, hd⟩ := pick_rows h e r (Nat.le_refl r)
  refine ⟨_, hd, Iv.det fun i j hi hj => hA _ _ (ht i hi) (h.lt _ (by omega)), fun k j hk hj => ?_⟩
  have h1 := cramer (n := r) (k := r - 1 - k) (M := fun i l => A (t i) (p (r - 1 - l))) (x := fun l => R (r - 1 - l) j) (y := fun i => A (t i) j) (by omega) fun i hi => by
    rw [h.coef (e.rt (t i) (ht i hi)) hj]
    -- the sum in the other order
    have rev : ∀ (N : Nat) (f : Nat → Rat), La.sm N f = La.sm N fun l => f (N - 1 - l) := fun N => by
      induction N with
      | zero => exact fun _ => rfl
      | succ N ih =>
        intro f
        rw [sm_left, ih fun k => f (k + 1)]
        show _ = La.sm N (fun l => f (N + 1 - 1 - l)) + f (N + 1 - 1 - N)
        rw [show N + 1 - 1 - N = 0 by omega, add_comm]
        congr 1
        exact sm_congr fun l hl => by rw [show N - 1 - l + 1 = N + 1 - 1 - l by omega]
    rw [rev r]
  have h2 : r - 1 - (r - 1 - k) = k := by omega
  simp only [h2] at h1
  rw [h1]
  exact Iv.det fun i l hi hl => by
    by_cases e1 : i = r - 1 - k
    · rw [e1, setr_at]; exact hA _ _ (ht l hl) hj
    · rw [setr_ne _ _ e1]; exact hA _ _ (ht l hl) (h.lt _ (by omega))
def Gen (B r n : Nat) (R : Mx Rat) : Prop := ∃ (m : Nat) (T : Mx Rat), (∀ i j, i < m → j < n → Iv B (T i j)) ∧ Same r m n R T
theorem Gen.mono {B C r n : Nat} {R : Mx Rat} (h : Gen B r n R) (hB : B ≤ C) : Gen C r n R := by
  obtain ⟨m, T, h1, h2⟩ := h
  exact ⟨m, T, fun i j hi hj => (h1 i j hi hj).mono hB, h2⟩
theorem Gen.hgt {B r n : Nat} {R : Mx Rat} {p : Nat → Nat} (h : Gen B r n R) (hE : Ech r n R p) : Hgt (fac r * B ^ r) r n R := by
  obtain ⟨m, T, h1, h2⟩ := h
  exact hgt_span h1 hE h2
theorem Gen.sum {B a b s n : Nat} {A C S : Mx Rat} (hA : Gen B a n A) (hC : Gen B b n C) (e : Same s (a + b) n S (stack a A C)) : Gen B s n S := by
  obtain ⟨k, T, t1, t2⟩ := hA
  obtain ⟨l, W, w1, w2⟩ := hC
  refine ⟨k + l, stack k T W, fun i j hi hj => ?_, e.trans ⟨fun i hi => ?_, fun i hi => ?_⟩⟩
  · by_cases h : i < k
    · rw [stack_lt h]; exact t1 i j h hj
    · rw [show i = k + (i - k) by omega, stack_add]; exact w1 _ j (by omega) hj
  · by_cases h : i < a
    · rw [stack_lt h]; exact sp_left (t2.lt i h)
    · rw [show i = a + (i - a) by omega, stack_add]; exact sp_right (w2.lt _ (by omega))
  · by_cases h : i < k
    · rw [stack_lt h]; exact sp_left (t2.rt i h)
    · rw [show i = k + (i - k) by omega, stack_add]; exact sp_right (w2.rt _ (by omega))
end Go.La
namespace Go.Proofs.YtpigpikhjlmdoaaGreat
open Go.Hp
def Hw (w r n : Nat) (R : Nat → Nat → Rat) : Prop := La.Hgt (4294967296 ^ w - 1) r n R
theorem fac_le : ∀ {n : Nat}, n ≤ 6 → La.fac n ≤ 4294967295
  | 0, _ | 1, _ | 2, _ | 3, _ | 4, _ | 5, _ | 6, _ => by decide
  | n + 7, h => by omega
theorem hw_pow {r w : Nat} (hr : r ≤ 6) : La.fac r * (4294967296 ^ w - 1) ^ r ≤ 4294967296 ^ (6 * w + 1) - 1 := by
  have h1 : (4294967296 ^ w - 1) ^ r ≤ 4294967296 ^ (6 * w) := by
    refine Nat.le_trans (Nat.pow_le_pow_left (Nat.sub_le _ 1) r) ?_
    rw [← Nat.pow_mul]
    exact Nat.pow_le_pow_right (by decide) (by rw [Nat.mul_comm]; exact Nat.mul_le_mul_right w hr)
  have h2 := Nat.mul_le_mul (fac_le hr) h1
  have h3 : 0 < 4294967296 ^ (6 * w) := Nat.pow_pos (by decide)
  rw [Nat.pow_succ, Nat.mul_comm (4294967296 ^ (6 * w))]
  omega
theorem Hw.mono {w v r n : Nat} {R : Nat → Nat → Rat} (h : Hw w r n R) (hw : w ≤ v) : Hw v r n R := La.Hgt.mono h (Nat.sub_le_sub_right (Nat.pow_le_pow_right (by decide) hw) 1)
theorem Hw.congr {w r n : Nat} {R S : Nat → Nat → Rat} (h : Hw w r n R) (e : ∀ i j, i < r → j < n → R i j = S i j) : Hw w r n S := La.Hgt.congr h e
def Gw (w r n : Nat) (R : Nat → Nat → Rat) : Prop := La.Gen (4294967296 ^ w - 1) r n R
theorem Gw.mono {w v r n : Nat} {R : Nat → Nat → Rat} (h : Gw w r n R) (hw : w ≤ v) : Gw v r n R := La.Gen.mono h (Nat.sub_le_sub_right (Nat.pow_le_pow_right (by decide) hw) 1)
theorem Gw.hw {w r n : Nat} {R : Nat → Nat → Rat} {p : Nat → Nat} (h : Gw w r n R) (hE : La.Ech r n R p) (hn : n ≤ 6) : Hw (6 * w + 1) r n R := La.Hgt.mono (La.Gen.hgt h hE) (hw_pow (Nat.le_trans hE.le_n hn))
theorem Gw.sum {w a b s n : Nat} {A C S : Nat → Nat → Rat} (hA : Gw w a n A) (hC : Gw w b n C) (e : La.Same s (a + b) n S (La.stack a A C)) : Gw w s n S := La.Gen.sum hA hC e
theorem pow_pos' (w : Nat) : 0 < 4294967296 ^ w := Nat.pow_pos (by decide)
theorem common {a : Nat} : ∀ (N : Nat) (f : Nat → Rat), (∀ k, k < N → Szq (f k) a) → ∃ D : Rat, D ≠ 0 ∧ La.Iv (4294967296 ^ (a * N)) D ∧ ∀ k, k < N → La.Iv (4294967296 ^ a * 4294967296 ^ (a * N)) (D * f k)
  | 0, _, _ => ⟨1, by decide, La.Iv.one (by simp), fun _ h => absurd h (Nat.not_lt_zero _)⟩
  | N + 1, f, h => by
    obtain ⟨D, h1, h2, h3⟩ := common N f fun k hk => h k (by omega)
    have hs := h N (by omega)
    have hd : La.Iv (4294967296 ^ a) ((f N).den : Rat) := ⟨((f N).den : Int), rfl, by have := hs.2; unfold Sz at this; omega⟩
    have hm : La.Iv (4294967296 ^ a) ((f N).num : Rat) := ⟨(f N).num, rfl, by have := hs.1; unfold Sz at this; omega⟩
    have h0 : ((f N).den : Rat) ≠ 0 := fun e => by
      have h4 := (f N).den_nz
      exact h4 (by exact_mod_cast e)
    have e1 : 4294967296 ^ (a * N) * 4294967296 ^ a = 4294967296 ^ (a * (N + 1)) := by rw [← Nat.pow_add, Nat.mul_add, Nat.mul_one]
    have e2 : ((f N).den : Rat) * f N = ((f N).num : Rat) := by
      have h4 : f N = ((f N).num : Rat) / (((f N).den : Int) : Rat) := by rw [← Rat.divInt_eq_div, Rat.num_divInt_den]
      have key : ∀ (d x n : Rat), d ≠ 0 → x = n / d → d * x = n := fun d x n h e => by rw [e, Rat.div_def, Rat.mul_comm, Rat.mul_assoc, Rat.inv_mul_cancel _ h, Rat.mul_one]
      exact key _ _ _ h0 h4
    refine ⟨D * ((f N).den : Rat), La.mul_ne h1 h0, ?_, fun k hk => ?_⟩
    · rw [← e1]; exact h2.mul hd
    · rcases Nat.lt_or_eq_of_le (Nat.le_of_lt_succ hk) with h5 | h5
      · have := (h3 k h5).mul hd
        rw [Rat.mul_assoc, Rat.mul_comm ((f N).den : Rat), ← Rat.mul_assoc, ← e1, ← Nat.mul_assoc]
        exact this
      · subst h5
        rw [Rat.mul_assoc, e2]
        refine (h2.mul hm).mono ?_
        rw [e1]
        exact Nat.le_mul_of_pos_left _ (pow_pos' a)
theorem Hw.tr {w r n : Nat} {R : Nat → Nat → Rat} (h : Hw w r n R) : Hw w n r (La.tr R) := by
  obtain ⟨D, h1, h2, h3⟩ := h
  exact ⟨D, h1, h2, fun i j hi hj => h3 j i hj hi⟩
end Go.Proofs.YtpigpikhjlmdoaaGreat

/- Subspaces: what is left of a vector, maps on invariant subspaces and on quotients. No condition. -/
namespace Go.La
section
variable {K : Type} [Fld K]
def prj (r : Nat) (B : Mx K) (p : Nat → Nat) (v : Nat → K) : Nat → K := fun j => v j + -(sm r fun i => v (p i) * B i j)
def act (n : Nat) (T : Mx K) (v : Nat → K) : Nat → K := fun j => sm n fun l => v l * T l j
theorem act_sp {r n : Nat} {B T : Mx K} {v c : Nat → K} (h : ∀ j, j < n → v j = sm r fun i => c i * B i j) (j : Nat) : act n T v j = sm r fun i => c i * mm n B T i j := by
  unfold act
  rw [sm_congr (g := fun l => sm r fun i => c i * (B i l * T l j)) fun l hl => by rw [h l hl, ← sm_mul']; exact sm_congr fun i _ => mul_assoc _ _ _, sm_comm]
  exact sm_congr fun i _ => sm_mul _ _ _
def Inv (r n : Nat) (B T : Mx K) : Prop := ∀ i, i < r → Sp r n B (mm n B T i)
theorem Inv.act {r n : Nat} {B T : Mx K} (h : Inv r n B T) {v : Nat → K} (hv : Sp r n B v) : Sp r n B (act n T v) := by
  obtain ⟨c, hc⟩ := hv
  exact (Sp.sum c (mm n B T) h).congr (fun _ _ _ _ => rfl) fun j _ => (act_sp hc j).symm
def rst (n : Nat) (B T : Mx K) (p : Nat → Nat) : Mx K := fun i k => mm n B T i (p k)
def quo (r : Nat) (B T : Mx K) (p f : Nat → Nat) : Mx K := fun c d => prj r B p (T (f c)) (f d)
end
end Go.La
