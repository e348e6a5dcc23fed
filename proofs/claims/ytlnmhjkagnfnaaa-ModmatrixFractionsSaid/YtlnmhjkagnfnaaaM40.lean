/- Texts of this seat's own, merged: each begins with its own remark. -/
import Derived.Test.YtlnmhjkagnfnaaaM19
/- Numbers with the rules of a commutative ring; sums; determinants. No condition. -/
namespace Go.Lr

/-- What is asked of numbers here: the rules of a commutative ring. -/
class Rg (K : Type) extends Zero K, One K, Add K, Mul K, Neg K where
  add_assoc : ∀ a b c : K, a + b + c = a + (b + c)
  add_comm : ∀ a b : K, a + b = b + a
  zero_add : ∀ a : K, 0 + a = a
  neg_add : ∀ a : K, -a + a = 0
  mul_assoc : ∀ a b c : K, a * b * c = a * (b * c)
  mul_comm : ∀ a b : K, a * b = b * a
  one_mul : ∀ a : K, 1 * a = a
  mul_add : ∀ a b c : K, a * (b + c) = a * b + a * c

open Go.La (Mx setr setr_at setr_ne swap swap_at swap_ne skip skip_lt)
section
variable {K : Type} [Rg K]

theorem add_assoc (a b c : K) : a + b + c = a + (b + c) := Rg.add_assoc a b c
theorem add_comm (a b : K) : a + b = b + a := Rg.add_comm a b
theorem add_left_comm (a b c : K) : a + (b + c) = b + (a + c) := by rw [← add_assoc, add_comm a b, add_assoc]
theorem mul_assoc (a b c : K) : a * b * c = a * (b * c) := Rg.mul_assoc a b c
theorem mul_comm (a b : K) : a * b = b * a := Rg.mul_comm a b
theorem mul_left_comm (a b c : K) : a * (b * c) = b * (a * c) := by rw [← mul_assoc, mul_comm a b, mul_assoc]
theorem zero_add (a : K) : 0 + a = a := Rg.zero_add a
theorem add_zero (a : K) : a + 0 = a := by rw [add_comm, zero_add]
theorem neg_add_self (a : K) : -a + a = 0 := Rg.neg_add a
theorem add_neg_self (a : K) : a + -a = 0 := by rw [add_comm, neg_add_self]
theorem neg_add_can (a b : K) : -a + (a + b) = b := by rw [← add_assoc, neg_add_self, zero_add]
theorem one_mul (a : K) : 1 * a = a := Rg.one_mul a
theorem mul_one (a : K) : a * 1 = a := by rw [mul_comm, one_mul]
theorem mul_add (a b c : K) : a * (b + c) = a * b + a * c := Rg.mul_add a b c
theorem add_mul (a b c : K) : (a + b) * c = a * c + b * c := by rw [mul_comm, mul_add, mul_comm c a, mul_comm c b]
theorem add_left_can {a b c : K} (h : a + b = a + c) : b = c := by rw [← neg_add_can a b, h, neg_add_can]
theorem add_self_zero {a : K} (h : a + a = a) : a = 0 := add_left_can (a := a) (by rw [h, add_zero])
theorem mul_zero (a : K) : a * 0 = 0 := add_self_zero (by rw [← mul_add, zero_add])
theorem zero_mul (a : K) : 0 * a = 0 := by rw [mul_comm, mul_zero]
theorem eq_neg {a b : K} (h : a + b = 0) : b = -a := add_left_can (a := a) (by rw [h, add_neg_self])
theorem neg_neg (a : K) : -(-a) = a := (eq_neg (neg_add_self a)).symm
theorem neg_mul (a b : K) : -a * b = -(a * b) := eq_neg (by rw [← add_mul, add_neg_self, zero_mul])
theorem mul_neg (a b : K) : a * -b = -(a * b) := by rw [mul_comm, neg_mul, mul_comm]
theorem neg_zero : -(0 : K) = 0 := (eq_neg (zero_add 0)).symm
theorem neg_add (a b : K) : -(a + b) = -a + -b := (eq_neg (by rw [add_assoc, add_left_comm b, ← add_assoc a, add_neg_self, add_neg_self, zero_add])).symm
theorem neg_inj {a b : K} (h : -a = -b) : a = b := by rw [← neg_neg a, h, neg_neg]
theorem eq_of_sub {a b : K} (h : a + -b = 0) : a = b := (neg_inj (eq_neg h)).symm
/-! ### sums -/
def sm : Nat → (Nat → K) → K
  | 0, _ => 0
  | n + 1, f => sm n f + f n

theorem sm_congr : ∀ {n : Nat} {f g : Nat → K}, (∀ k, k < n → f k = g k) → sm n f = sm n g
  | 0, _, _, _ => rfl
  | n + 1, f, g, h => by
    unfold sm
    rw [sm_congr (n := n) (fun k hk => h k (by omega)), h n (by omega)]
theorem sm_zero : ∀ {n : Nat} {f : Nat → K}, (∀ k, k < n → f k = 0) → sm n f = 0
  | 0, _, _ => rfl
  | n + 1, f, h => by
    unfold sm
    rw [sm_zero (n := n) (fun k hk => h k (by omega)), h n (by omega), zero_add]
theorem sm_add : ∀ (n : Nat) (f g : Nat → K), sm n (fun k => f k + g k) = sm n f + sm n g
  | 0, _, _ => (zero_add _).symm
  | n + 1, f, g => by
    unfold sm
    rw [sm_add n f g, add_assoc, add_assoc]
    congr 1
    rw [add_left_comm]
theorem sm_mul : ∀ (n : Nat) (c : K) (f : Nat → K), sm n (fun k => c * f k) = c * sm n f
  | 0, _, _ => (mul_zero _).symm
  | n + 1, c, f => by
    unfold sm
    rw [sm_mul n c f, mul_add]
theorem sm_mul' (n : Nat) (c : K) (f : Nat → K) : sm n (fun k => f k * c) = sm n f * c := by
  rw [mul_comm, ← sm_mul]
  exact sm_congr fun k _ => mul_comm _ _
theorem sm_neg : ∀ (n : Nat) (f : Nat → K), sm n (fun k => -f k) = -sm n f
  | 0, _ => neg_zero.symm
  | n + 1, f => by
    unfold sm
    rw [sm_neg n f, neg_add]
theorem sm_comm : ∀ (m n : Nat) (f : Nat → Nat → K), sm m (fun i => sm n fun j => f i j) = sm n (fun j => sm m fun i => f i j)
  | 0, n, f => (sm_zero (n := n) fun _ _ => rfl).symm
  | m + 1, n, f => by
    show sm m (fun i => sm n fun j => f i j) + sm n (fun j => f m j) = _
    rw [sm_comm m n f, ← sm_add]
    rfl
theorem sm_one : ∀ {n : Nat} {f : Nat → K} (k : Nat), k < n → (∀ j, j < n → j ≠ k → f j = 0) → sm n f = f k
  | 0, _, _, h, _ => by omega
  | n + 1, f, k, h, hz => by
    unfold sm
    by_cases e : k = n
    · subst e
      rw [sm_zero (n := k) (fun j hj => hz j (by omega) (by omega)), zero_add]
    · rw [sm_one (n := n) k (by omega) (fun j hj => hz j (by omega)), hz n (by omega) (fun e' => e e'.symm), add_zero]
theorem sm_left : ∀ (n : Nat) (f : Nat → K), sm (n + 1) f = f 0 + sm n (fun k => f (k + 1))
  | 0, f => by unfold sm sm; rw [zero_add, add_zero]
  | n + 1, f => by
    rw [sm, sm_left n f, sm, add_assoc]
theorem sm_two {n : Nat} {f : Nat → K} {p q : Nat} (hp : p < n) (hq : q < n) (hne : p ≠ q) (hz : ∀ j, j < n → j ≠ p → j ≠ q → f j = 0) : sm n f = f p + f q := by
  have h : sm n f = sm n (fun k => (if k = p then f k else 0) + (if k = p then 0 else f k)) := sm_congr fun k _ => by
    by_cases e : k = p
    · rw [if_pos e, if_pos e, add_zero]
    · rw [if_neg e, if_neg e, zero_add]
  rw [h, sm_add, sm_one p hp (fun j _ hj => by rw [if_neg hj]), if_pos rfl, sm_one q hq (fun j hj hj2 => by
    by_cases e : j = p
    · rw [if_pos e]
    · rw [if_neg e]; exact hz j hj e hj2), if_neg (Ne.symm hne)]
theorem sm_app (m : Nat) : ∀ (n : Nat) (f : Nat → K), sm (m + n) f = sm m f + sm n (fun k => f (m + k))
  | 0, f => by rw [Nat.add_zero]; unfold sm; exact (add_zero _).symm
  | n + 1, f => by rw [← Nat.add_assoc, sm, sm_app m n f, sm, add_assoc]

/-! ### determinants -/
def sgn : Nat → K
  | 0 => 1
  | j + 1 => -sgn j
def tr (A : Mx K) : Mx K := fun i j => A j i
def minor (A : Mx K) (j : Nat) : Mx K := fun i k => A (i + 1) (skip j k)
def det : Nat → Mx K → K
  | 0, _ => 1
  | n + 1, A => sm (n + 1) fun j => sgn j * (A 0 j * det n (minor A j))

theorem det_congr : ∀ {n : Nat} {A B : Mx K}, (∀ i j, i < n → j < n → A i j = B i j) → det n A = det n B
  | 0, _, _, _ => rfl
  | n + 1, A, B, h => by
    unfold det
    refine sm_congr fun j hj => ?_
    rw [h 0 j (by omega) hj, det_congr (n := n) (A := minor A j) (B := minor B j) fun i k hi hk => h _ _ (by omega) (skip_lt hk)]

theorem det_tr : ∀ (n : Nat) (A : Mx K), det n (tr A) = det n A
  | 0, _ => rfl
  | 1, A => rfl
  | n + 2, A => by
    have main : ∀ B : Mx K, det (n + 2) B = B 0 0 * det (n + 1) (fun i j => B (i + 1) (j + 1)) + sm (n + 1) (fun j => sm (n + 1) fun i => -(sgn j * sgn i * (B 0 (j + 1) * (B (i + 1) 0 * det n (fun a b => B (skip i b + 1) (skip j a + 1)))))) := by
      intro B
      rw [det, sm_left]
      congr 1
      · show 1 * _ = _
        rw [one_mul]; rfl
      · refine sm_congr fun j _ => ?_
        rw [← det_tr (n + 1) (minor B (j + 1)), det, ← sm_mul, ← sm_mul]
        refine sm_congr fun i _ => ?_
        have e1 : tr (minor B (j + 1)) 0 i = B (i + 1) 0 := rfl
        have e2 : det n (minor (tr (minor B (j + 1))) i) = det n (fun a b => B (skip i b + 1) (skip j a + 1)) := det_congr fun a b _ _ => by
          show B (skip i b + 1) (skip (j + 1) (a + 1)) = _
          congr 1
          unfold skip; split <;> split <;> omega
        rw [e1, e2]
        show -sgn j * _ = _
        rw [neg_mul]
        congr 1
        simp only [mul_assoc, mul_left_comm]
    rw [main A, main (tr A)]
    congr 1
    · show A 0 0 * _ = _
      congr 1
      exact det_tr (n + 1) (fun i j => A (i + 1) (j + 1))
    · rw [sm_comm]
      refine sm_congr fun i _ => sm_congr fun j _ => ?_
      congr 1
      have e : det n (fun a b => tr A (skip i b + 1) (skip j a + 1)) = det n (fun a b => A (skip j b + 1) (skip i a + 1)) := det_tr n (fun a b => A (skip j b + 1) (skip i a + 1))
      rw [e]
      simp only [tr]
      rw [mul_comm (sgn j), mul_left_comm (A (j + 1) 0)]

/-! columns -/
/-- Linear in a column. -/
theorem det_col : ∀ {n : Nat} {A B C : Mx K} {t : K} {c : Nat}, c < n → (∀ i, A i c = B i c + t * C i c) → (∀ i j, j ≠ c → A i j = B i j) → (∀ i j, j ≠ c → A i j = C i j) → det n A = det n B + t * det n C
  | n + 1, A, B, C, t, c, hc, h, hB, hC => by
    unfold det
    rw [← sm_mul, ← sm_add]
    refine sm_congr fun j hj => ?_
    by_cases e : j = c
    · subst e
      rw [h 0]
      have e1 : minor A j = minor B j := by
        funext i k; exact hB _ _ (by unfold skip; split <;> omega)
      have e2 : minor A j = minor C j := by
        funext i k; exact hC _ _ (by unfold skip; split <;> omega)
      rw [← e1, ← e2, add_mul, mul_add, mul_assoc, mul_left_comm t (sgn j)]
    · rw [← hB 0 j e, ← hC 0 j e]
      have hs : ∃ c', c' < n ∧ skip j c' = c ∧ ∀ k, k ≠ c' → skip j k ≠ c := by
        rcases Nat.lt_or_gt_of_ne e with h1 | h1
        · exact ⟨c - 1, by omega, by unfold skip; split <;> omega, fun k hk => by unfold skip; split <;> omega⟩
        · exact ⟨c, by omega, by unfold skip; split <;> omega, fun k hk => by unfold skip; split <;> omega⟩
      obtain ⟨c', h1, h2, h3⟩ := hs
      have ih := det_col (n := n) (A := minor A j) (B := minor B j) (C := minor C j) (t := t) (c := c') h1
        (fun i => by unfold minor; rw [h2]; exact h _) (fun i k hk => hB _ _ (h3 k hk)) (fun i k hk => hC _ _ (h3 k hk))
      rw [ih, mul_add, mul_add]
      congr 1
      simp only [mul_left_comm t]

/-- Two columns side by side that are the same. -/
theorem det_adj : ∀ {n : Nat} {A : Mx K} {c : Nat}, c + 1 < n → (∀ i, A i c = A i (c + 1)) → det n A = 0
  | n + 1, A, c, hc, h => by
    unfold det
    rw [sm_two (p := c) (q := c + 1) (by omega) hc (by omega)]
    · have e : det n (minor A (c + 1)) = det n (minor A c) := det_congr fun i k _ _ => by
        show A (i + 1) (skip (c + 1) k) = A (i + 1) (skip c k)
        by_cases hk : k = c
        · subst hk
          rw [show skip (k + 1) k = k by unfold skip; split <;> omega, show skip k k = k + 1 by unfold skip; split <;> omega]
          exact h _
        · rw [show skip (c + 1) k = skip c k by unfold skip; split <;> split <;> omega]
      rw [e, ← h 0]
      show sgn c * _ + -sgn c * _ = 0
      rw [neg_mul, add_neg_self]
    · intro j hj h1 h2
      have hs : ∃ c', c' + 1 < n ∧ skip j c' = c ∧ skip j (c' + 1) = c + 1 := by
        rcases Nat.lt_or_gt_of_ne h1 with h3 | h3
        · exact ⟨c - 1, by omega, by unfold skip; split <;> omega, by unfold skip; split <;> omega⟩
        · exact ⟨c, by omega, by unfold skip; split <;> omega, by unfold skip; split <;> omega⟩
      obtain ⟨c', h3, h4, h5⟩ := hs
      rw [det_adj (n := n) (A := minor A j) (c := c') h3 (fun i => by unfold minor; rw [h4, h5]; exact h _), mul_zero, mul_zero]

/-! ### what behaves as the determinant does, in the rows -/
structure Alt (n : Nat) (F : Mx K → K) : Prop where
  congr : ∀ {A B : Mx K}, (∀ i j, i < n → j < n → A i j = B i j) → F A = F B
  row : ∀ {A B C : Mx K} {t : K} {r : Nat}, r < n → (∀ j, A r j = B r j + t * C r j) → (∀ i, i ≠ r → A i = B i) → (∀ i, i ≠ r → A i = C i) → F A = F B + t * F C
  adj : ∀ {A : Mx K} {r : Nat}, r + 1 < n → A r = A (r + 1) → F A = 0

theorem det_alt (n : Nat) : Alt n (det n : Mx K → K) where
  congr h := det_congr h
  row {A B C t r} hr h hB hC := by
    rw [← det_tr n A, ← det_tr n B, ← det_tr n C]
    exact det_col hr (fun i => h i) (fun i j hj => congrFun (hB j hj) i) (fun i j hj => congrFun (hC j hj) i)
  adj {A r} hr h := by
    rw [← det_tr]
    exact det_adj hr (fun i => congrFun h i)


theorem Alt.swap_of {n : Nat} {F : Mx K → K} (h : Alt n F) {p q : Nat} (hp : p < n) (hq : q < n) (hne : p ≠ q) (hz : ∀ A : Mx K, A p = A q → F A = 0) (A : Mx K) : F (swap A p q) = -F A := by
  -- rows p and q both x + y
  let v : Nat → K := fun j => A p j + A q j
  let S : (Nat → K) → (Nat → K) → Mx K := fun x y => setr (setr A p x) q y
  have hS : ∀ x y, S x y p = x ∧ S x y q = y := fun x y => ⟨by show setr _ q y p = x; rw [setr_ne _ _ hne, setr_at], setr_at _ _ _⟩
  have hSo : ∀ x y i, i ≠ p → i ≠ q → S x y i = A i := fun x y i h1 h2 => by show setr _ q y i = _; rw [setr_ne _ _ h2, setr_ne _ _ h1]
  have hrow1 : ∀ x x' y, F (S (fun j => x j + x' j) y) = F (S x y) + F (S x' y) := fun x x' y => by
    have := h.row (A := S (fun j => x j + x' j) y) (B := S x y) (C := S x' y) (t := 1) hp (fun j => by rw [(hS _ _).1, (hS _ _).1, (hS _ _).1, one_mul])
      (fun i hi => by
        by_cases e : i = q
        · subst e; rw [(hS _ _).2, (hS _ _).2]
        · rw [hSo _ _ i hi e, hSo _ _ i hi e])
      (fun i hi => by
        by_cases e : i = q
        · subst e; rw [(hS _ _).2, (hS _ _).2]
        · rw [hSo _ _ i hi e, hSo _ _ i hi e])
    rw [this, one_mul]
  have hrow2 : ∀ x y y', F (S x (fun j => y j + y' j)) = F (S x y) + F (S x y') := fun x y y' => by
    have := h.row (A := S x (fun j => y j + y' j)) (B := S x y) (C := S x y') (t := 1) hq (fun j => by rw [(hS _ _).2, (hS _ _).2, (hS _ _).2, one_mul])
      (fun i hi => by
        by_cases e : i = p
        · subst e; rw [(hS _ _).1, (hS _ _).1]
        · rw [hSo _ _ i e hi, hSo _ _ i e hi])
      (fun i hi => by
        by_cases e : i = p
        · subst e; rw [(hS _ _).1, (hS _ _).1]
        · rw [hSo _ _ i e hi, hSo _ _ i e hi])
    rw [this, one_mul]
  have hd : ∀ x, F (S x x) = 0 := fun x => hz _ (by rw [(hS x x).1, (hS x x).2])
  have h0 := hd v
  rw [show S v v = S (fun j => A p j + A q j) v from rfl, hrow1, show S (A p) v = S (A p) (fun j => A p j + A q j) from rfl, show S (A q) v = S (A q) (fun j => A p j + A q j) from rfl, hrow2, hrow2, hd, hd, zero_add, add_zero] at h0
  have e1 : S (A p) (A q) = A := by
    funext i
    by_cases e : i = p
    · subst e; exact (hS _ _).1
    · by_cases e' : i = q
      · subst e'; exact (hS _ _).2
      · exact hSo _ _ i e e'
  have e2 : S (A q) (A p) = swap A p q := by
    funext i
    unfold swap
    by_cases e : i = p
    · subst e; rw [if_pos rfl]; exact (hS _ _).1
    · rw [if_neg e]
      by_cases e' : i = q
      · subst e'; rw [if_pos rfl]; exact (hS _ _).2
      · rw [if_neg e']; exact hSo _ _ i e e'
  rw [e1, e2] at h0
  exact eq_neg h0


/-- Two rows that are the same. -/
theorem Alt.same {n : Nat} {F : Mx K → K} (h : Alt n F) : ∀ (d p : Nat) {A : Mx K}, p + d + 1 < n → A p = A (p + d + 1) → F A = 0
  | 0, p, A, hn, he => h.adj hn he
  | d + 1, p, A, hn, he => by
    have h1 := h.swap_of (p := p + d + 1) (q := p + d + 2) (by omega) (by omega) (by omega) (fun B hB => h.adj (r := p + d + 1) (by omega) hB) A
    have h2 := Alt.same h d p (A := swap A (p + d + 1) (p + d + 2)) (by omega) (by rw [swap_ne (by omega) (by omega), swap_at.1]; exact he)
    rw [h2] at h1
    rw [← neg_neg (F A), ← h1, neg_zero]
theorem Alt.eq {n : Nat} {F : Mx K → K} (h : Alt n F) {p q : Nat} {A : Mx K} (hp : p < n) (hq : q < n) (hne : p ≠ q) (he : A p = A q) : F A = 0 := by
  rcases Nat.lt_or_gt_of_ne hne with h1 | h1
  · exact h.same (q - p - 1) p (by omega) (by rw [he]; congr 1; omega)
  · exact h.same (p - q - 1) q (by omega) (by rw [← he]; congr 1; omega)
theorem Alt.swap {n : Nat} {F : Mx K → K} (h : Alt n F) {p q : Nat} (hp : p < n) (hq : q < n) (hne : p ≠ q) (A : Mx K) : F (swap A p q) = -F A :=
  h.swap_of hp hq hne (fun _ e => h.eq hp hq hne e) A
/-- A multiple of another row is added. -/
theorem Alt.comb {n : Nat} {F : Mx K → K} (h : Alt n F) {p q : Nat} (hp : p < n) (hq : q < n) (hne : p ≠ q) (t : K) (A : Mx K) : F (setr A p (fun j => A p j + t * A q j)) = F A := by
  rw [h.row (B := A) (C := setr A p (A q)) (t := t) hp (fun j => by rw [setr_at, setr_at]) (fun i hi => setr_ne _ _ hi) (fun i hi => by rw [setr_ne _ _ hi, setr_ne _ _ hi]),
    h.eq (A := setr A p (A q)) (p := p) (q := q) hp hq hne (by rw [setr_at, setr_ne _ _ (Ne.symm hne)]), mul_zero, add_zero]
theorem Alt.zero {n : Nat} {F : Mx K → K} (h : Alt n F) {r : Nat} (hr : r < n) {A : Mx K} (hz : ∀ j, j < n → A r j = 0) : F A = 0 := by
  rw [h.congr (A := A) (B := setr A r (fun _ => 0)) (fun i j _ hj => by
    by_cases e : i = r
    · subst e; rw [setr_at]; exact hz j hj
    · rw [setr_ne _ _ e])]
  refine add_self_zero ?_
  have := h.row (A := setr A r (fun _ => 0)) (B := setr A r (fun _ => 0)) (C := setr A r (fun _ => 0)) (t := 1) hr (fun j => by rw [setr_at, mul_zero, add_zero]) (fun _ _ => rfl) (fun _ _ => rfl)
  rw [one_mul] at this
  exact this.symm
/-- A row is multiplied. -/
theorem Alt.scale {n : Nat} {F : Mx K → K} (h : Alt n F) {r : Nat} (hr : r < n) (t : K) (A : Mx K) : F (setr A r (fun j => t * A r j)) = t * F A := by
  rw [h.row (B := setr A r (fun _ => 0)) (C := A) (t := t) hr (fun j => by rw [setr_at, setr_at, zero_add]) (fun i hi => by rw [setr_ne _ _ hi, setr_ne _ _ hi]) (fun i hi => setr_ne _ _ hi),
    h.zero hr (fun j _ => by rw [setr_at]), zero_add]

/-! ### products -/
def mm (n : Nat) (A B : Mx K) : Mx K := fun i j => sm n fun k => A i k * B k j
def idm : Mx K := fun i j => if i = j then 1 else 0

theorem mm_alt {n : Nat} {F : Mx K → K} (h : Alt n F) (B : Mx K) : Alt n (fun A => F (mm n A B)) where
  congr {A A'} he := h.congr fun i j hi hj => sm_congr fun k hk => by rw [he i k hi hk]
  row {A A' C t r} hr h1 h2 h3 := h.row hr (fun j => by
      unfold mm
      rw [← sm_mul, ← sm_add]
      refine sm_congr fun k _ => ?_
      rw [h1 k, add_mul, mul_assoc]) (fun i hi => by unfold mm; rw [h2 i hi]) (fun i hi => by unfold mm; rw [h3 i hi])
  adj {A r} hr he := h.adj hr (by unfold mm; rw [he])

theorem idm_mm {n : Nat} (B : Mx K) {i j : Nat} (hi : i < n) : mm n idm B i j = B i j := by
  unfold mm idm
  rw [sm_one i hi (fun k _ hk => by rw [if_neg (Ne.symm hk), zero_mul]), if_pos rfl, one_mul]
theorem det_idm : ∀ n : Nat, det n (idm : Mx K) = 1
  | 0 => rfl
  | n + 1 => by
    unfold det
    rw [sm_one 0 (by omega) (fun j _ hj => by unfold idm; rw [if_neg (Ne.symm hj), zero_mul, mul_zero])]
    have e : det n (minor (idm : Mx K) 0) = det n idm := det_congr fun i k _ _ => by
      show (if i + 1 = skip 0 k then (1 : K) else 0) = if i = k then 1 else 0
      rw [show skip 0 k = k + 1 by unfold skip; split <;> omega]
      by_cases h : i = k
      · rw [if_pos h, if_pos (by omega)]
      · rw [if_neg h, if_neg (by omega)]
    rw [e, det_idm n]
    show (1 : K) * ((if 0 = 0 then 1 else 0) * 1) = 1
    rw [if_pos rfl, one_mul, one_mul]

end
end Go.Lr


/- Rings: maps between them, power series, rows taken apart. No condition. -/
namespace Go.Lr
open Go.La (Mx setr setr_at setr_ne swap swap_at swap_ne skip skip_lt Fld)

instance ofFld {K : Type} [Fld K] : Rg K where
  add_assoc := Fld.add_assoc
  add_comm := Fld.add_comm
  zero_add := Fld.zero_add
  neg_add := Fld.neg_add
  mul_assoc := Fld.mul_assoc
  mul_comm := Fld.mul_comm
  one_mul := Fld.one_mul
  mul_add := Fld.mul_add

instance : Rg Int where
  add_assoc := Int.add_assoc
  add_comm := Int.add_comm
  zero_add := Int.zero_add
  neg_add := Int.add_left_neg
  mul_assoc := Int.mul_assoc
  mul_comm := Int.mul_comm
  one_mul := Int.one_mul
  mul_add := Int.mul_add

/-! ### maps -/
structure Hom {R S : Type} [Rg R] [Rg S] (φ : R → S) : Prop where
  zero : φ 0 = 0
  one : φ 1 = 1
  add : ∀ a b, φ (a + b) = φ a + φ b
  mul : ∀ a b, φ (a * b) = φ a * φ b
theorem Hom.neg {R S : Type} [Rg R] [Rg S] {φ : R → S} (h : Hom φ) (a : R) : φ (-a) = -φ a := eq_neg (by rw [← h.add, add_neg_self, h.zero])
theorem Hom.sm {R S : Type} [Rg R] [Rg S] {φ : R → S} (h : Hom φ) : ∀ (n : Nat) (f : Nat → R), φ (sm n f) = Lr.sm n fun k => φ (f k)
  | 0, _ => h.zero
  | n + 1, f => by show φ (Lr.sm n f + f n) = Lr.sm n _ + φ (f n); rw [h.add, h.sm n f]
theorem Hom.sgn {R S : Type} [Rg R] [Rg S] {φ : R → S} (h : Hom φ) : ∀ n : Nat, φ (sgn n) = Lr.sgn n
  | 0 => h.one
  | n + 1 => by show φ (-Lr.sgn n) = -Lr.sgn n; rw [h.neg, h.sgn n]
theorem Hom.det {R S : Type} [Rg R] [Rg S] {φ : R → S} (h : Hom φ) : ∀ (n : Nat) (A : Mx R), φ (det n A) = Lr.det n fun i j => φ (A i j)
  | 0, _ => h.one
  | n + 1, A => by
    show φ (Lr.sm (n + 1) _) = Lr.sm (n + 1) _
    rw [h.sm]
    refine sm_congr fun j _ => ?_
    rw [h.mul, h.mul, h.sgn, h.det n]
    rfl

def tau (p q i : Nat) : Nat := if i = p then q else if i = q then p else i
section
variable {K : Type} [Rg K]

/-! ### a row taken apart -/
/-! ### the transpose: steps on columns -/
end

/-! ### power series -/
def PS (K : Type) : Type := Nat → K
section
variable {K : Type} [Rg K]

theorem tri : ∀ (n : Nat) (G : Nat → Nat → Nat → K), sm (n + 1) (fun i => sm (i + 1) fun j => G j (i - j) (n - i)) = sm (n + 1) fun j => sm (n - j + 1) fun k => G j k (n - j - k)
  | 0, G => rfl
  | n + 1, G => by
    have h1 : sm (n + 2) (fun i => sm (i + 1) fun j => G j (i - j) (n + 1 - i)) = sm (n + 2) (fun i => G 0 i (n + 1 - i)) + sm (n + 2) fun i => sm i fun j => G (j + 1) (i - (j + 1)) (n + 1 - i) := by
      rw [← sm_add]
      exact sm_congr fun i _ => by rw [sm_left]; rfl
    have h2 : (sm (n + 2) fun i => sm i fun j => G (j + 1) (i - (j + 1)) (n + 1 - i)) = sm (n + 1) (fun i => sm (i + 1) fun j => G (j + 1) (i - j) (n - i)) := by
      rw [sm_left, show sm 0 (fun j => G (j + 1) (0 - (j + 1)) (n + 1 - 0)) = 0 from rfl, zero_add]
      refine sm_congr fun i _ => sm_congr fun j _ => ?_
      rw [show i + 1 - (j + 1) = i - j by omega, show n + 1 - (i + 1) = n - i by omega]
    have h3 : (sm (n + 1) fun j => sm (n - j + 1) fun k => G (j + 1) k (n - j - k)) = sm (n + 1) fun j => sm (n + 1 - (j + 1) + 1) fun k => G (j + 1) k (n + 1 - (j + 1) - k) := sm_congr fun j _ => by rw [show n + 1 - (j + 1) = n - j by omega]
    rw [h1, h2, tri n fun j => G (j + 1), h3]
    exact (sm_left (n + 1) fun j => sm (n + 1 - j + 1) fun k => G j k (n + 1 - j - k)).symm

def pmul (f g : Nat → K) : Nat → K := fun n => sm (n + 1) fun i => (f i * g (n - i) : K)
theorem sm_rev : ∀ (n : Nat) (f : Nat → K), sm (n + 1) (fun i => (f (n - i) : K)) = sm (n + 1) f
  | 0, _ => rfl
  | n + 1, f => by
    have e : sm (n + 1) (fun k => f (n + 1 - (k + 1))) = sm (n + 1) fun k => f (n - k) := sm_congr fun k _ => by rw [show n + 1 - (k + 1) = n - k by omega]
    rw [sm_left, e, sm_rev n f, Nat.sub_zero, add_comm]
    rfl

instance : Rg (PS K) where
  zero := fun _ => (0 : K)
  one := fun n => if n = 0 then (1 : K) else 0
  add f g := fun n => (f n + g n : K)
  neg f := fun n => (-(f n) : K)
  mul f g := pmul f g
  add_assoc a b c := funext fun n => add_assoc (a n : K) (b n) (c n)
  add_comm a b := funext fun n => add_comm (a n : K) (b n)
  zero_add a := funext fun n => zero_add (a n : K)
  neg_add a := funext fun n => neg_add_self (a n : K)
  mul_assoc a b c := funext fun n => by
    show sm (n + 1) (fun i => sm (i + 1) (fun j => (a j : K) * b (i - j)) * c (n - i)) = sm (n + 1) fun j => (a j : K) * sm (n - j + 1) fun k => b k * c (n - j - k)
    have h1 := tri n fun j k l => ((a j : K) * b k) * c l
    have h2 : sm (n + 1) (fun i => sm (i + 1) (fun j => (a j : K) * b (i - j)) * c (n - i)) = sm (n + 1) (fun i => sm (i + 1) fun j => ((a j : K) * b (i - j)) * c (n - i)) := sm_congr fun i _ => (sm_mul' _ _ _).symm
    rw [h2, h1]
    refine sm_congr fun j _ => ?_
    rw [← sm_mul]
    exact sm_congr fun k _ => mul_assoc _ _ _
  mul_comm a b := funext fun n => by
    show sm (n + 1) (fun i => (a i : K) * b (n - i)) = sm (n + 1) fun i => (b i : K) * a (n - i)
    rw [← sm_rev]
    refine sm_congr fun i hi => ?_
    rw [show n - (n - i) = i by omega, mul_comm]
  one_mul a := funext fun n => by
    show sm (n + 1) (fun i => (if i = 0 then (1 : K) else 0) * a (n - i)) = a n
    rw [sm_one 0 (by omega) (fun j _ hj => by rw [if_neg hj, zero_mul]), if_pos rfl, one_mul]; rfl
  mul_add a b c := funext fun n => by
    show sm (n + 1) (fun i => (a i : K) * (b (n - i) + c (n - i))) = sm (n + 1) (fun i => (a i : K) * b (n - i)) + sm (n + 1) fun i => (a i : K) * c (n - i)
    rw [← sm_add]
    exact sm_congr fun i _ => mul_add _ _ _

theorem ps_mul (f g : PS K) (n : Nat) : (f * g) n = sm (n + 1) fun i => (f i : K) * g (n - i) := rfl
/-- A series of two terms, times another. -/
def two (a b : K) : PS K := fun n => if n = 0 then a else if n = 1 then b else 0
theorem two_mul (a b : K) (f : PS K) (n : Nat) : (two a b * f) (n + 1) = a * (f (n + 1) : K) + b * f n := by
  rw [ps_mul, sm_left, sm_left, sm_zero fun k _ => by show (if k + 1 + 1 = 0 then a else if k + 1 + 1 = 1 then b else 0) * _ = 0; rw [if_neg (by omega), if_neg (by omega), zero_mul], add_zero]
  rfl

/-- One minus x times a matrix. -/
def cm (A : Mx K) : Mx (PS K) := fun i j => two (idm i j) (-(A i j))
/-- The coefficients of its determinant: those of the characteristic polynomial, from the highest down. -/
def cp (n : Nat) (A : Mx K) (k : Nat) : K := (det n (cm A) : PS K) k
def pmap {R S : Type} (φ : R → S) (f : PS R) : PS S := fun n => φ (f n)
end
end Go.Lr

/- The characteristic polynomial by traces (Faddeev and LeVerrier). No condition. -/
namespace Go.Lr
open Go.La (Mx setr setr_at setr_ne swap swap_at swap_ne skip skip_lt Fld)

/-! ### derivations -/
structure Der {R : Type} [Rg R] (D : R → R) : Prop where
  add : ∀ a b, D (a + b) = D a + D b
  mul : ∀ a b, D (a * b) = D a * b + a * D b
section
variable {R : Type} [Rg R] {D : R → R}
theorem Der.zero (h : Der D) : D 0 = 0 := add_self_zero (by rw [← h.add, zero_add])
theorem Der.one (h : Der D) : D 1 = 0 := add_self_zero (by have := h.mul 1 1; rw [mul_one, mul_one, one_mul] at this; exact this.symm)
theorem Der.neg (h : Der D) (a : R) : D (-a) = -D a := eq_neg (by rw [← h.add, add_neg_self, h.zero])
theorem Der.sgn (h : Der D) : ∀ n : Nat, D (sgn n) = 0
  | 0 => h.one
  | n + 1 => by show D (-Lr.sgn n) = 0; rw [h.neg, h.sgn n, neg_zero]
theorem Der.sm (h : Der D) : ∀ (n : Nat) (f : Nat → R), D (sm n f) = Lr.sm n fun k => D (f k)
  | 0, _ => h.zero
  | n + 1, f => by show D (Lr.sm n f + f n) = Lr.sm n _ + D (f n); rw [h.add, h.sm n f]
/-- Row by row. -/
theorem Der.det (h : Der D) : ∀ (n : Nat) (M : Mx R), D (det n M) = Lr.sm n fun i => Lr.det n (setr M i fun j => D (M i j))
  | 0, _ => h.one
  | n + 1, M => by
    have h0 : Lr.det (n + 1) (setr M 0 fun j => D (M 0 j)) = Lr.sm (n + 1) fun j => Lr.sgn j * (D (M 0 j) * Lr.det n (minor M j)) := by
      show Lr.sm (n + 1) _ = _
      refine sm_congr fun j _ => ?_
      rw [setr_at]
      congr 2
    have h1 : ∀ i, Lr.det (n + 1) (setr M (i + 1) fun j => D (M (i + 1) j)) = Lr.sm (n + 1) fun j => Lr.sgn j * (M 0 j * Lr.det n (setr (minor M j) i fun k => D (minor M j i k))) := fun i => by
      show Lr.sm (n + 1) _ = _
      refine sm_congr fun j _ => ?_
      rw [setr_ne _ _ (by omega : 0 ≠ i + 1)]
      congr 2
      refine det_congr fun a b _ _ => ?_
      show setr M (i + 1) _ (a + 1) (skip j b) = _
      by_cases e : a = i
      · subst e; rw [setr_at, setr_at]; rfl
      · rw [setr_ne _ _ e, setr_ne _ _ (by omega)]; rfl
    rw [sm_left, h0, show (fun k => Lr.det (n + 1) (setr M (k + 1) fun j => D (M (k + 1) j))) = fun i => Lr.sm (n + 1) fun j => Lr.sgn j * (M 0 j * Lr.det n (setr (minor M j) i fun k => D (minor M j i k))) from funext h1, sm_comm, ← sm_add]
    show D (Lr.sm (n + 1) _) = _
    rw [h.sm]
    refine sm_congr fun j _ => ?_
    rw [h.mul, h.sgn, zero_mul, zero_add, h.mul, mul_add, h.det n, ← sm_mul, ← sm_mul]
end

section
variable {K : Type} [Rg K]
/-- The natural numbers among them. -/
def nm : Nat → K
  | 0 => 0
  | k + 1 => nm k + 1
def dif (f : PS K) : PS K := fun n => (nm (n + 1) * f (n + 1) : K)
/-- The adjugate. -/
def adj (n : Nat) (M : Mx K) : Mx K := fun j k => det n (setr M k (idm j))
/-- The coefficients of the adjugate of one minus x times a matrix. -/
def Bc (n : Nat) (A : Mx K) (m : Nat) : Mx K := fun i k => (adj n (cm A) i k : PS K) m
end
end Go.Lr

/- The characteristic polynomial of a Hessenberg matrix. No condition. -/
namespace Go.Lr
open Go.La (Mx setr setr_at setr_ne swap swap_at swap_ne skip skip_lt Fld)
section
variable {K : Type} [Rg K]

/-- The product of the entries below the diagonal, from column i on: d of them. -/
def prd (H : Mx K) (i : Nat) : Nat → K
  | 0 => 1
  | d + 1 => prd H i d * H (i + d + 1) (i + d)
def Hess (n : Nat) (H : Mx K) : Prop := ∀ i j, i < n → j + 1 < i → H i j = 0

def Ed (H : Mx K) (i m : Nat) : PS K := det (m + 1) (setr (tr (cm H)) m (idm i))
/-- The polynomials by the recurrence: pl H k t is the coefficient of x^t in that of the first k rows and columns. -/
def plc (H : Mx K) (k : Nat) (p : Nat → Nat → K) (t : Nat) : K := (if t = 0 then 0 else p k (t - 1)) + -(H k k * p k t + sm k fun i => prd H i (k - i) * H i k * p i t)

/-! ### steps to that form -/
/-- A multiple of row m is taken from row i, that of column i is added to column m. -/
def erow (A : Mx K) (i m : Nat) (u : K) : Mx K := setr A i fun j => A i j + -u * A m j
def ecol (A : Mx K) (i m : Nat) (u : K) : Mx K := fun a j => if j = m then A a m + u * A a i else A a j
end
end Go.Lr

/- Residues modulo a prime: a field. No condition. -/
namespace Go.Fq
open Go.La (Fld)

/-- A prime: at least 2, and nothing between divides it. -/
structure Prm (p : Nat) : Prop where
  two : 2 ≤ p
  div : ∀ d, 2 ≤ d → d < p → p % d ≠ 0
abbrev Pm := {p : Nat // Prm p}
structure Fp (P : Pm) where
  v : Nat
  lt : v < P.1
variable {P : Pm}
theorem Fp.ext {a b : Fp P} (h : a.v = b.v) : a = b := by cases a; cases b; simp only at h; subst h; rfl
theorem pos (P : Pm) : (0 : Int) < (P.1 : Int) := by have := P.2.two; omega
/-- The residue of an integer. -/
def of (P : Pm) (z : Int) : Fp P := ⟨(z % (P.1 : Int)).toNat, by
  have h1 := Int.emod_nonneg z (show (P.1 : Int) ≠ 0 by have := pos P; omega)
  have h2 := Int.emod_lt_of_pos z (pos P)
  omega⟩
theorem of_val (z : Int) : ((of P z).v : Int) = z % (P.1 : Int) := by
  have h1 := Int.emod_nonneg z (show (P.1 : Int) ≠ 0 by have := pos P; omega)
  show ((z % (P.1 : Int)).toNat : Int) = _
  omega
theorem of_eq {x y : Int} : of P x = of P y ↔ x % (P.1 : Int) = y % (P.1 : Int) := by
  constructor
  · intro h
    rw [← of_val, ← of_val, h]
  · intro h
    refine Fp.ext ?_
    have h1 := of_val (P := P) x
    have h2 := of_val (P := P) y
    omega
theorem of_v (a : Fp P) : of P (a.v : Int) = a := by
  refine Fp.ext ?_
  have h1 := of_val (P := P) (a.v : Int)
  rw [Int.emod_eq_of_lt (by omega) (by have := a.lt; omega)] at h1
  omega
theorem of_sub_mul (x k : Int) : of P (x + (P.1 : Int) * k) = of P x := of_eq.2 (by rw [Int.add_mul_emod_self_left])

instance : Zero (Fp P) := ⟨of P 0⟩
instance : One (Fp P) := ⟨of P 1⟩
instance : Add (Fp P) := ⟨fun a b => of P ((a.v : Int) + b.v)⟩
instance : Mul (Fp P) := ⟨fun a b => of P ((a.v : Int) * b.v)⟩
instance : Neg (Fp P) := ⟨fun a => of P (-(a.v : Int))⟩
theorem of_zero : of P 0 = 0 := rfl
theorem of_one : of P 1 = 1 := rfl
theorem of_add (x y : Int) : of P (x + y) = of P x + of P y := by
  show _ = of P (((of P x).v : Int) + (of P y).v)
  rw [of_val, of_val]
  exact of_eq.2 (by rw [Int.add_emod])
theorem of_mul (x y : Int) : of P (x * y) = of P x * of P y := by
  show _ = of P (((of P x).v : Int) * (of P y).v)
  rw [of_val, of_val]
  exact of_eq.2 (by rw [Int.mul_emod])
theorem of_neg (x : Int) : of P (-x) = -of P x := by
  show _ = of P (-((of P x).v : Int))
  rw [of_val]
  exact of_eq.2 (by rw [Int.neg_emod_eq_sub_emod, Int.neg_emod_eq_sub_emod, Int.sub_emod, Int.sub_emod (P.1 : Int) (x % _), Int.emod_emod_of_dvd x (Int.dvd_refl _)])
theorem v_zero : (0 : Fp P).v = 0 := by
  have := of_val (P := P) 0
  rw [Int.zero_emod] at this
  have h : (of P 0).v = 0 := by omega
  exact h
theorem v_one : (1 : Fp P).v = 1 := by
  have h1 := of_val (P := P) 1
  have := P.2.two
  rw [Int.emod_eq_of_lt (by omega) (by omega)] at h1
  have h : (of P 1).v = 1 := by omega
  exact h
theorem v_eq_zero {a : Fp P} : a.v = 0 ↔ a = 0 := ⟨fun h => Fp.ext (by rw [h, v_zero]), fun h => by rw [h, v_zero]⟩

theorem inv_ex (P : Pm) : ∀ a : Nat, 0 < a → a < P.1 → ∃ x : Int, ((a : Int) * x) % (P.1 : Int) = 1 := by
  intro a
  induction a using Nat.strongRecOn with
  | ind a ih =>
    intro h0 h1
    have h2 := P.2.two
    by_cases e : a = 1
    · subst e
      exact ⟨1, by rw [Int.emod_eq_of_lt (by omega) (by omega)]; rfl⟩
    · have hr := P.2.div a (by omega) h1
      obtain ⟨x, hx⟩ := ih (P.1 % a) (Nat.mod_lt _ h0) (by omega) (by have := Nat.mod_lt P.1 h0; omega)
      refine ⟨-((P.1 / a : Nat) : Int) * x, ?_⟩
      rw [← hx]
      have e1 : ((P.1 % a : Nat) : Int) = (P.1 : Int) - (a : Int) * ((P.1 / a : Nat) : Int) := by
        have := Nat.div_add_mod P.1 a
        rw [← Int.natCast_mul]
        omega
      have e2 : (P.1 : Int) * x + (a : Int) * (-((P.1 / a : Nat) : Int) * x) = ((P.1 % a : Nat) : Int) * x := by
        rw [e1, Int.sub_mul, Int.neg_mul, Int.mul_neg, Int.mul_assoc]
        omega
      rw [← e2, Int.add_comm, Int.add_mul_emod_self_left]

instance : Nonempty (Fp P) := ⟨0⟩
noncomputable instance : Inv (Fp P) := ⟨fun a => Classical.epsilon fun x : Fp P => a * x = 1⟩
theorem inv_mul' (a : Fp P) (h : a ≠ 0) : a⁻¹ * a = 1 := by
  have hex : ∃ x : Fp P, a * x = 1 := by
    obtain ⟨x, hx⟩ := inv_ex P a.v (by
      rcases Nat.eq_zero_or_pos a.v with h0 | h0
      · exact absurd (v_eq_zero.1 h0) h
      · exact h0) a.lt
    refine ⟨of P x, ?_⟩
    have := of_mul (P := P) (a.v : Int) x
    rw [of_v] at this
    rw [← this, ← of_one]
    have h2 := P.2.two
    exact of_eq.2 (by rw [hx, Int.emod_eq_of_lt (by omega) (by omega)])
  have hc : a * a⁻¹ = 1 := Classical.epsilon_spec hex
  show of P ((a⁻¹.v : Int) * (a.v : Int)) = 1
  rw [Int.mul_comm]
  exact hc

noncomputable instance : Fld (Fp P) where
  add_assoc a b c := by rw [← of_v a, ← of_v b, ← of_v c, ← of_add, ← of_add, ← of_add, ← of_add, Int.add_assoc]
  add_comm a b := by rw [← of_v a, ← of_v b, ← of_add, ← of_add, Int.add_comm]
  zero_add a := by rw [← of_v a, ← of_zero, ← of_add, Int.zero_add]
  neg_add a := by rw [← of_v a, ← of_neg, ← of_add, Int.add_left_neg, of_zero]
  mul_assoc a b c := by rw [← of_v a, ← of_v b, ← of_v c, ← of_mul, ← of_mul, ← of_mul, ← of_mul, Int.mul_assoc]
  mul_comm a b := by rw [← of_v a, ← of_v b, ← of_mul, ← of_mul, Int.mul_comm]
  one_mul a := by rw [← of_v a, ← of_one, ← of_mul, Int.one_mul]
  mul_add a b c := by rw [← of_v a, ← of_v b, ← of_v c, ← of_add, ← of_mul, ← of_mul, ← of_mul, ← of_add, Int.mul_add]
  inv_mul := inv_mul'
  one_ne h := by
    have h1 := v_one (P := P)
    have h2 := v_zero (P := P)
    have h3 : (1 : Fp P).v = (0 : Fp P).v := congrArg Fp.v h
    omega
theorem inv_eq {a x : Fp P} (h : a * x = 1) : a⁻¹ = x := by
  have ha : a ≠ 0 := fun e => La.one_ne (K := Fp P) (by rw [← h, e, La.zero_mul])
  exact La.mul_left_can ha (by rw [h, La.mul_inv a ha])
end Go.Fq

/- Trial division; the division that finds an inverse. No condition. -/
namespace Go.Fq

theorem prm_iff {n : Nat} : Prm n ↔ 2 ≤ n ∧ ∀ d, 2 ≤ d → d * d ≤ n → n % d ≠ 0 := by
  constructor
  · intro h
    refine ⟨h.two, fun d h1 h2 => h.div d h1 ?_⟩
    have := Nat.mul_le_mul_right d h1
    omega
  · intro ⟨h0, h⟩
    refine ⟨h0, fun d h1 h2 h3 => ?_⟩
    by_cases h4 : d * d ≤ n
    · exact h d h1 h4 h3
    · obtain ⟨k, hk⟩ := Nat.dvd_of_mod_eq_zero h3
      have hk2 : 2 ≤ k := by
        rcases Nat.lt_or_ge k 2 with h5 | h5
        · have := Nat.mul_le_mul_left d (show k ≤ 1 by omega)
          omega
        · exact h5
      have hkd : k < d := by
        rcases Nat.lt_or_ge k d with h5 | h5
        · exact h5
        · have := Nat.mul_le_mul_left d h5
          omega
      have h6 : k * k ≤ n := by
        have := Nat.mul_le_mul_right k (Nat.le_of_lt hkd)
        omega
      exact h k hk2 h6 (by rw [hk]; exact Nat.mul_mod_left d k)

/-- Halfway: g = u a and r = v a modulo m; the signs of u and v alternate. -/
structure Eu (a m g r u v e : Int) : Prop where
  e1 : e = 1 ∨ e = -1
  g1 : 0 ≤ g
  r0 : 0 ≤ r
  eq : u * r - v * g = e * m
  up : 0 ≤ e * u
  vp : e * v ≤ 0
  cg : m ∣ g - u * a
  cr : m ∣ r - v * a
  dv : ∀ d : Int, d ∣ g → d ∣ r → d ∣ a ∧ d ∣ m
  ub : -m ≤ u ∧ u ≤ m
theorem Eu.start {a m : Int} (h0 : 0 ≤ a) (h1 : 1 ≤ m) : Eu a m a m 1 0 1 :=
  ⟨.inl rfl, h0, by omega, by omega, by omega, by omega, by rw [Int.one_mul, Int.sub_self]; exact Int.dvd_zero m, by rw [Int.zero_mul, Int.sub_zero]; exact Int.dvd_refl m, fun _ h1 h2 => ⟨h1, h2⟩, by omega⟩
theorem Eu.vb {a m g r u v e : Int} (h : Eu a m g r u v e) (hg : 1 ≤ g) : -m ≤ v ∧ v ≤ m := by
  have h3 := h.eq
  have h4 := h.vp
  have h5 := h.up
  rcases h.e1 with e1 | e1 <;> subst e1
  · have h1 := Int.mul_nonneg (show 0 ≤ u by omega) h.r0
    have h2 := Int.mul_le_mul_of_nonneg_left hg (show 0 ≤ -v by omega)
    rw [Int.neg_mul, Int.neg_mul, Int.mul_one] at h2
    omega
  · have h1 := Int.mul_nonneg (show 0 ≤ -u by omega) h.r0
    have h2 := Int.mul_le_mul_of_nonneg_left hg (show 0 ≤ v by omega)
    rw [Int.neg_mul] at h1
    rw [Int.mul_one] at h2
    omega
theorem Eu.step {a m g r u v e q s : Int} (h : Eu a m g r u v e) (hr : 1 ≤ r) (hq : g = q * r + s) (hs0 : 0 ≤ s) (hq0 : 0 ≤ q) (hv : -m ≤ v ∧ v ≤ m) : Eu a m r s v (u - q * v) (-e) := by
  refine ⟨by rcases h.e1 with e | e <;> omega, by omega, hs0, ?_, ?_, ?_, h.cr, ?_, fun d h1 h2 => h.dv d (by rw [hq]; exact Int.dvd_add (Int.dvd_mul_of_dvd_right h1) h2) h1, hv⟩
  · have h1 := h.eq
    rw [hq, Int.mul_add] at h1
    rw [Int.sub_mul, Int.neg_mul, Int.mul_left_comm v q r] at *
    rw [Int.mul_assoc q v r]
    omega
  · have := h.vp
    rw [Int.neg_mul]
    omega
  · rw [Int.neg_mul, Int.mul_sub, Int.mul_left_comm]
    have h1 := Int.mul_nonneg hq0 (show 0 ≤ -(e * v) by have := h.vp; omega)
    rw [Int.mul_neg] at h1
    have := h.up
    omega
  · have e1 : s - (u - q * v) * a = (g - u * a) - q * (r - v * a) := by
      rw [hq, Int.mul_sub, Int.sub_mul, Int.mul_assoc]
      omega
    rw [e1]
    exact Int.dvd_sub h.cg (Int.dvd_mul_of_dvd_right h.cr)
/-- At the end, modulo a prime: the inverse. -/
theorem Eu.inv {P : Pm} {a : Fp P} {g u v e : Int} (h : Eu (a.v : Int) (P.1 : Int) g 0 u v e) (ha : a ≠ 0) : g = 1 ∧ of P u = a⁻¹ := by
  obtain ⟨h1, h2⟩ := h.dv g (Int.dvd_refl g) (Int.dvd_zero g)
  have hp := P.2.two
  have ha0 : a.v ≠ 0 := fun e => ha (v_eq_zero.1 e)
  have hal := a.lt
  have hg0 := h.g1
  obtain ⟨n, rfl⟩ : ∃ n : Nat, g = (n : Int) := ⟨g.toNat, by omega⟩
  have h3 : n ∣ a.v := Int.natCast_dvd_natCast.1 h1
  have h4 : n ∣ P.1 := Int.natCast_dvd_natCast.1 h2
  have hn : n ≤ a.v := Nat.le_of_dvd (by omega) h3
  have hn0 : n ≠ 0 := fun e => by subst e; exact ha0 (Nat.eq_zero_of_zero_dvd h3)
  have hn1 : n = 1 := by
    rcases Nat.lt_or_ge n 2 with h5 | h5
    · omega
    · exact absurd (Nat.mod_eq_zero_of_dvd h4) (P.2.div n h5 (by omega))
  subst hn1
  refine ⟨rfl, ?_⟩
  symm
  apply inv_eq
  have h5 := h.cg
  obtain ⟨k, hk⟩ := h5
  have h6 : of P (((1 : Nat) : Int)) = of P (u * (a.v : Int)) := by
    have : (((1 : Nat) : Int)) = u * (a.v : Int) + (P.1 : Int) * k := by omega
    rw [this, of_sub_mul]
  rw [of_mul, of_v] at h6
  rw [La.mul_comm, ← h6]
  rfl
end Go.Fq

/- Remainders put together; primes by the sieve. No condition. -/
namespace Go.Fq

/-- One more remainder. -/
theorem crt_step {x M r m u : Int} (hm : 1 ≤ m) (hM : 1 ≤ M) (hx0 : 0 ≤ x) (hx1 : x < M) (hu : m ∣ u * M - 1) :
    0 ≤ x + M * (((r - x) * u) % m) ∧ x + M * (((r - x) * u) % m) < M * m ∧ m ∣ x + M * (((r - x) * u) % m) - r ∧ M ∣ x + M * (((r - x) * u) % m) - x := by
  obtain ⟨t, ht⟩ : ∃ t, t = ((r - x) * u) % m := ⟨_, rfl⟩
  have h0 : 0 ≤ t := by rw [ht]; exact Int.emod_nonneg _ (by omega)
  have h1 : t < m := by rw [ht]; exact Int.emod_lt_of_pos _ (by omega)
  rw [← ht]
  have h2 : 0 ≤ M * t := Int.mul_nonneg (by omega) h0
  have h3 : M * t ≤ M * (m - 1) := Int.mul_le_mul_of_nonneg_left (by omega) (by omega)
  rw [Int.mul_sub, Int.mul_one] at h3
  refine ⟨by omega, by omega, ?_, by rw [show x + M * t - x = M * t by omega]; exact Int.dvd_mul_right ..⟩
  have h4 : m ∣ (r - x) * u - t := by rw [ht]; exact Int.dvd_self_sub_emod
  have e : x + M * t - r = (r - x) * (u * M - 1) - M * ((r - x) * u - t) := by
    rw [Int.mul_sub, Int.mul_sub, Int.mul_one, Int.mul_left_comm M (r - x) u, Int.mul_comm M u]
    omega
  rw [e]
  exact Int.dvd_sub (Int.dvd_mul_of_dvd_right hu) (Int.dvd_mul_of_dvd_right h4)
/-- The least divisor from 2 on is prime. -/
theorem prm_ex : ∀ n : Nat, 2 ≤ n → ∃ p, Prm p ∧ p ∣ n := by
  intro n
  induction n using Nat.strongRecOn with
  | ind n ih =>
    intro h
    by_cases hp : Prm n
    · exact ⟨n, hp, Nat.dvd_refl n⟩
    · have : ∃ d, 2 ≤ d ∧ d < n ∧ n % d = 0 := by
        apply Classical.byContradiction
        intro hn
        exact hp ⟨h, fun d h1 h2 h3 => hn ⟨d, h1, h2, h3⟩⟩
      obtain ⟨d, h1, h2, h3⟩ := this
      obtain ⟨p, hp, hd⟩ := ih d h2 h1
      exact ⟨p, hp, Nat.dvd_trans hd (Nat.dvd_of_mod_eq_zero h3)⟩
/-- A number that is not prime has a prime divisor whose square is not greater. -/
theorem not_prm {n : Nat} (h : 2 ≤ n) (hn : ¬ Prm n) : ∃ p, Prm p ∧ p ∣ n ∧ p * p ≤ n := by
  have : ∃ d, 2 ≤ d ∧ d * d ≤ n ∧ n % d = 0 := by
    apply Classical.byContradiction
    intro hx
    exact hn (prm_iff.2 ⟨h, fun d h1 h2 h3 => hx ⟨d, h1, h2, h3⟩⟩)
  obtain ⟨d, h1, h2, h3⟩ := this
  obtain ⟨p, hp, hd⟩ := prm_ex d h1
  refine ⟨p, hp, Nat.dvd_trans hd (Nat.dvd_of_mod_eq_zero h3), Nat.le_trans (Nat.mul_le_mul (Nat.le_of_dvd (by omega) hd) (Nat.le_of_dvd (by omega) hd)) h2⟩

/-- The sieve when p is next: f marks what is struck out. -/
structure Sv (n p : Nat) (f : Nat → Bool) : Prop where
  no : ∀ k, k ≤ n → f k = true → ¬ Prm k
  all : ∀ q k, Prm q → q < p → q ∣ k → q * q ≤ k → k ≤ n → f k = true
theorem Sv.start {n : Nat} : Sv n 2 fun _ => false := ⟨fun _ _ h => (by cases h), fun q _ hq h => absurd hq.two (by omega)⟩
theorem Sv.prime {n p : Nat} {f : Nat → Bool} (h : Sv n p f) (h2 : 2 ≤ p) (hp : p ≤ n) : f p = false ↔ Prm p := by
  constructor
  · intro hf
    apply Classical.byContradiction
    intro hn
    obtain ⟨q, h3, h4, h5⟩ := not_prm h2 hn
    have hq : q < p := by
      have := Nat.mul_le_mul_right q h3.two
      have := h3.two
      omega
    have := h.all q p h3 hq h4 h5 hp
    rw [hf] at this
    cases this
  · intro hf
    cases hb : f p with
    | false => rfl
    | true => exact absurd hf (h.no p hp hb)
theorem Sv.skip {n p : Nat} {f : Nat → Bool} (h : Sv n p f) (hp : ¬ Prm p) : Sv n (p + 1) f :=
  ⟨h.no, fun q k h1 h2 => h.all q k h1 (by
    rcases Nat.lt_or_eq_of_le (Nat.le_of_lt_succ h2) with h3 | h3
    · exact h3
    · subst h3; exact absurd h1 hp)⟩
/-- The multiples of p before c are struck out. -/
def stk (f : Nat → Bool) (p c : Nat) : Nat → Bool := fun k => f k || (decide (p * p ≤ k) && decide (k < c) && decide (p ∣ k))
end Go.Fq
