/- Numbers with the rules of a commutative ring; sums; determinants. No condition. -/
import Derived.Test.YtpigpikhjlmdoaaM19
namespace Go.Lr

/-- What is asked of numbers here: the rules of a commutative ring. -/
class Rg (K : Type) extends Zero K, One K, Add K, Mul K, Neg K where
  add_assoc : ∀ a b c : K, a + b + c = a + (b + c)
  add_comm : ∀ a b : K, a + b = b + a
  zero_add : ∀ a : K, 0 + a = a
  neg_add : ∀ a : K, -a + a = 0
  mul_assoc : ∀ a b c : K, a * b * c = a * (b * c)
  mul_comm : ∀ a b : K, a * b = b * a
  one_mul : ∀ a : K, 1 * a = a
  mul_add : ∀ a b c : K, a * (b + c) = a * b + a * c

open Go.La (Mx setr setr_at setr_ne swap swap_at swap_ne skip skip_lt)
section
variable {K : Type} [Rg K]

theorem add_assoc (a b c : K) : a + b + c = a + (b + c) := Rg.add_assoc a b c
theorem add_comm (a b : K) : a + b = b + a := Rg.add_comm a b
theorem add_left_comm (a b c : K) : a + (b + c) = b + (a + c) := by rw [← add_assoc, add_comm a b, add_assoc]
theorem mul_assoc (a b c : K) : a * b * c = a * (b * c) := Rg.mul_assoc a b c
theorem mul_comm (a b : K) : a * b = b * a := Rg.mul_comm a b
theorem mul_left_comm (a b c : K) : a * (b * c) = b * (a * c) := by rw [← mul_assoc, mul_comm a b, mul_assoc]
theorem zero_add (a : K) : 0 + a = a := Rg.zero_add a
theorem add_zero (a : K) : a + 0 = a := by rw [add_comm, zero_add]
theorem neg_add_self (a : K) : -a + a = 0 := Rg.neg_add a
theorem add_neg_self (a : K) : a + -a = 0 := by rw [add_comm, neg_add_self]
theorem neg_add_can (a b : K) : -a + (a + b) = b := by rw [← add_assoc, neg_add_self, zero_add]
theorem one_mul (a : K) : 1 * a = a := Rg.one_mul a
theorem mul_one (a : K) : a * 1 = a := by rw [mul_comm, one_mul]
theorem mul_add (a b c : K) : a * (b + c) = a * b + a * c := Rg.mul_add a b c
theorem add_mul (a b c : K) : (a + b) * c = a * c + b * c := by rw [mul_comm, mul_add, mul_comm c a, mul_comm c b]
theorem add_left_can {a b c : K} (h : a + b = a + c) : b = c := by rw [← neg_add_can a b, h, neg_add_can]
theorem add_self_zero {a : K} (h : a + a = a) : a = 0 := add_left_can (a := a) (by rw [h, add_zero])
theorem mul_zero (a : K) : a * 0 = 0 := add_self_zero (by rw [← mul_add, zero_add])
theorem zero_mul (a : K) : 0 * a = 0 := by rw [mul_comm, mul_zero]
theorem eq_neg {a b : K} (h : a + b = 0) : b = -a := add_left_can (a := a) (by rw [h, add_neg_self])
theorem neg_neg (a : K) : -(-a) = a := (eq_neg (neg_add_self a)).symm
theorem neg_mul (a b : K) : -a * b = -(a * b) := eq_neg (by rw [← add_mul, add_neg_self, zero_mul])
theorem mul_neg (a b : K) : a * -b = -(a * b) := by rw [mul_comm, neg_mul, mul_comm]
theorem neg_zero : -(0 : K) = 0 := (eq_neg (zero_add 0)).symm
theorem neg_add (a b : K) : -(a + b) = -a + -b := (eq_neg (by rw [add_assoc, add_left_comm b, ← add_assoc a, add_neg_self, add_neg_self, zero_add])).symm
theorem neg_inj {a b : K} (h : -a = -b) : a = b := by rw [← neg_neg a, h, neg_neg]
theorem eq_of_sub {a b : K} (h : a + -b = 0) : a = b := (neg_inj (eq_neg h)).symm
/-! ### sums -/
def sm : Nat → (Nat → K) → K
  | 0, _ => 0
  | n + 1, f => sm n f + f n

theorem sm_congr : ∀ {n : Nat} {f g : Nat → K}, (∀ k, k < n → f k = g k) → sm n f = sm n g
  | 0, _, _, _ => rfl
  | n + 1, f, g, h => by
    unfold sm
    rw [sm_congr (n := n) (fun k hk => h k (by omega)), h n (by omega)]
theorem sm_zero : ∀ {n : Nat} {f : Nat → K}, (∀ k, k < n → f k = 0) → sm n f = 0
  | 0, _, _ => rfl
  | n + 1, f, h => by
    unfold sm
    rw [sm_zero (n := n) (fun k hk => h k (by omega)), h n (by omega), zero_add]
theorem sm_add : ∀ (n : Nat) (f g : Nat → K), sm n (fun k => f k + g k) = sm n f + sm n g
  | 0, _, _ => (zero_add _).symm
  | n + 1, f, g => by
    unfold sm
    rw [sm_add n f g, add_assoc, add_assoc]
    congr 1
    rw [add_left_comm]
theorem sm_mul : ∀ (n : Nat) (c : K) (f : Nat → K), sm n (fun k => c * f k) = c * sm n f
  | 0, _, _ => (mul_zero _).symm
  | n + 1, c, f => by
    unfold sm
    rw [sm_mul n c f, mul_add]
theorem sm_mul' (n : Nat) (c : K) (f : Nat → K) : sm n (fun k => f k * c) = sm n f * c := by
  rw [mul_comm, ← sm_mul]
  exact sm_congr fun k _ => mul_comm _ _
theorem sm_neg : ∀ (n : Nat) (f : Nat → K), sm n (fun k => -f k) = -sm n f
  | 0, _ => neg_zero.symm
  | n + 1, f => by
    unfold sm
    rw [sm_neg n f, neg_add]
theorem sm_comm : ∀ (m n : Nat) (f : Nat → Nat → K), sm m (fun i => sm n fun j => f i j) = sm n (fun j => sm m fun i => f i j)
  | 0, n, f => (sm_zero (n := n) fun _ _ => rfl).symm
  | m + 1, n, f => by
    show sm m (fun i => sm n fun j => f i j) + sm n (fun j => f m j) = _
    rw [sm_comm m n f, ← sm_add]
    rfl
theorem sm_one : ∀ {n : Nat} {f : Nat → K} (k : Nat), k < n → (∀ j, j < n → j ≠ k → f j = 0) → sm n f = f k
  | 0, _, _, h, _ => by omega
  | n + 1, f, k, h, hz => by
    unfold sm
    by_cases e : k = n
    · subst e
      rw [sm_zero (n := k) (fun j hj => hz j (by omega) (by omega)), zero_add]
    · rw [sm_one (n := n) k (by omega) (fun j hj => hz j (by omega)), hz n (by omega) (fun e' => e e'.symm), add_zero]
theorem sm_left : ∀ (n : Nat) (f : Nat → K), sm (n + 1) f = f 0 + sm n (fun k => f (k + 1))
  | 0, f => by unfold sm sm; rw [zero_add, add_zero]
  | n + 1, f => by
    rw [sm, sm_left n f, sm, add_assoc]
theorem sm_two {n : Nat} {f : Nat → K} {p q : Nat} (hp : p < n) (hq : q < n) (hne : p ≠ q) (hz : ∀ j, j < n → j ≠ p → j ≠ q → f j = 0) : sm n f = f p + f q := by
  have h : sm n f = sm n (fun k => (if k = p then f k else 0) + (if k = p then 0 else f k)) := sm_congr fun k _ => by
    by_cases e : k = p
    · rw [if_pos e, if_pos e, add_zero]
    · rw [if_neg e, if_neg e, zero_add]
  rw [h, sm_add, sm_one p hp (fun j _ hj => by rw [if_neg hj]), if_pos rfl, sm_one q hq (fun j hj hj2 => by
    by_cases e : j = p
    · rw [if_pos e]
    · rw [if_neg e]; exact hz j hj e hj2), if_neg (Ne.symm hne)]
theorem sm_app (m : Nat) : ∀ (n : Nat) (f : Nat → K), sm (m + n) f = sm m f + sm n (fun k => f (m + k))
  | 0, f => by rw [Nat.add_zero]; unfold sm; exact (add_zero _).symm
  | n + 1, f => by rw [← Nat.add_assoc, sm, sm_app m n f, sm, add_assoc]

/-! ### determinants -/
def sgn : Nat → K
  | 0 => 1
  | j + 1 => -sgn j
def tr (A : Mx K) : Mx K := fun i j => A j i
def minor (A : Mx K) (j : Nat) : Mx K := fun i k => A (i + 1) (skip j k)
def det : Nat → Mx K → K
  | 0, _ => 1
  | n + 1, A => sm (n + 1) fun j => sgn j * (A 0 j * det n (minor A j))

theorem det_congr : ∀ {n : Nat} {A B : Mx K}, (∀ i j, i < n → j < n → A i j = B i j) → det n A = det n B
  | 0, _, _, _ => rfl
  | n + 1, A, B, h => by
    unfold det
    refine sm_congr fun j hj => ?_
    rw [h 0 j (by omega) hj, det_congr (n := n) (A := minor A j) (B := minor B j) fun i k hi hk => h _ _ (by omega) (skip_lt hk)]

theorem det_tr : ∀ (n : Nat) (A : Mx K), det n (tr A) = det n A
  | 0, _ => rfl
  | 1, A => rfl
  | n + 2, A => by
    have main : ∀ B : Mx K, det (n + 2) B = B 0 0 * det (n + 1) (fun i j => B (i + 1) (j + 1)) + sm (n + 1) (fun j => sm (n + 1) fun i => -(sgn j * sgn i * (B 0 (j + 1) * (B (i + 1) 0 * det n (fun a b => B (skip i b + 1) (skip j a + 1)))))) := by
      intro B
      rw [det, sm_left]
      congr 1
      · show 1 * _ = _
        rw [one_mul]; rfl
      · refine sm_congr fun j _ => ?_
        rw [← det_tr (n + 1) (minor B (j + 1)), det, ← sm_mul, ← sm_mul]
        refine sm_congr fun i _ => ?_
        have e1 : tr (minor B (j + 1)) 0 i = B (i + 1) 0 := rfl
        have e2 : det n (minor (tr (minor B (j + 1))) i) = det n (fun a b => B (skip i b + 1) (skip j a + 1)) := det_congr fun a b _ _ => by
          show B (skip i b + 1) (skip (j + 1) (a + 1)) = _
          congr 1
          unfold skip; split <;> split <;> omega
        rw [e1, e2]
        show -sgn j * _ = _
        rw [neg_mul]
        congr 1
        simp only [mul_assoc, mul_left_comm]
    rw [main A, main (tr A)]
    congr 1
    · show A 0 0 * _ = _
      congr 1
      exact det_tr (n + 1) (fun i j => A (i + 1) (j + 1))
    · rw [sm_comm]
      refine sm_congr fun i _ => sm_congr fun j _ => ?_
      congr 1
      have e : det n (fun a b => tr A (skip i b + 1) (skip j a + 1)) = det n (fun a b => A (skip j b + 1) (skip i a + 1)) := det_tr n (fun a b => A (skip j b + 1) (skip i a + 1))
      rw [e]
      simp only [tr]
      rw [mul_comm (sgn j), mul_left_comm (A (j + 1) 0)]

/-! columns -/
/-- Linear in a column. -/
theorem det_col : ∀ {n : Nat} {A B C : Mx K} {t : K} {c : Nat}, c < n → (∀ i, A i c = B i c + t * C i c) → (∀ i j, j ≠ c → A i j = B i j) → (∀ i j, j ≠ c → A i j = C i j) → det n A = det n B + t * det n C
  | n + 1, A, B, C, t, c, hc, h, hB, hC => by
    unfold det
    rw [← sm_mul, ← sm_add]
    refine sm_congr fun j hj => ?_
    by_cases e : j = c
    · subst e
      rw [h 0]
      have e1 : minor A j = minor B j := by
        funext i k; exact hB _ _ (by unfold skip; split <;> omega)
      have e2 : minor A j = minor C j := by
        funext i k; exact hC _ _ (by unfold skip; split <;> omega)
      rw [← e1, ← e2, add_mul, mul_add, mul_assoc, mul_left_comm t (sgn j)]
    · rw [← hB 0 j e, ← hC 0 j e]
      have hs : ∃ c', c' < n ∧ skip j c' = c ∧ ∀ k, k ≠ c' → skip j k ≠ c := by
        rcases Nat.lt_or_gt_of_ne e with h1 | h1
        · exact ⟨c - 1, by omega, by unfold skip; split <;> omega, fun k hk => by unfold skip; split <;> omega⟩
        · exact ⟨c, by omega, by unfold skip; split <;> omega, fun k hk => by unfold skip; split <;> omega⟩
      obtain ⟨c', h1, h2, h3⟩ := hs
      have ih := det_col (n := n) (A := minor A j) (B := minor B j) (C := minor C j) (t := t) (c := c') h1
        (fun i => by unfold minor; rw [h2]; exact h _) (fun i k hk => hB _ _ (h3 k hk)) (fun i k hk => hC _ _ (h3 k hk))
      rw [ih, mul_add, mul_add]
      congr 1
      simp only [mul_left_comm t]

/-- Two columns side by side that are the same. -/
theorem det_adj : ∀ {n : Nat} {A : Mx K} {c : Nat}, c + 1 < n → (∀ i, A i c = A i (c + 1)) → det n A = 0
  | n + 1, A, c, hc, h => by
    unfold det
    rw [sm_two (p := c) (q := c + 1) (by omega) hc (by omega)]
    · have e : det n (minor A (c + 1)) = det n (minor A c) := det_congr fun i k _ _ => by
        show A (i + 1) (skip (c + 1) k) = A (i + 1) (skip c k)
        by_cases hk : k = c
        · subst hk
          rw [show skip (k + 1) k = k by unfold skip; split <;> omega, show skip k k = k + 1 by unfold skip; split <;> omega]
          exact h _
        · rw [show skip (c + 1) k = skip c k by unfold skip; split <;> split <;> omega]
      rw [e, ← h 0]
      show sgn c * _ + -sgn c * _ = 0
      rw [neg_mul, add_neg_self]
    · intro j hj h1 h2
      have hs : ∃ c', c' + 1 < n ∧ skip j c' = c ∧ skip j (c' + 1) = c + 1 := by
        rcases Nat.lt_or_gt_of_ne h1 with h3 | h3
        · exact ⟨c - 1, by omega, by unfold skip; split <;> omega, by unfold skip; split <;> omega⟩
        · exact ⟨c, by omega, by unfold skip; split <;> omega, by unfold skip; split <;> omega⟩
      obtain ⟨c', h3, h4, h5⟩ := hs
      rw [det_adj (n := n) (A := minor A j) (c := c') h3 (fun i => by unfold minor; rw [h4, h5]; exact h _), mul_zero, mul_zero]

/-! ### what behaves as the determinant does, in the rows -/
structure Alt (n : Nat) (F : Mx K → K) : Prop where
  congr : ∀ {A B : Mx K}, (∀ i j, i < n → j < n → A i j = B i j) → F A = F B
  row : ∀ {A B C : Mx K} {t : K} {r : Nat}, r < n → (∀ j, A r j = B r j + t * C r j) → (∀ i, i ≠ r → A i = B i) → (∀ i, i ≠ r → A i = C i) → F A = F B + t * F C
  adj : ∀ {A : Mx K} {r : Nat}, r + 1 < n → A r = A (r + 1) → F A = 0

theorem det_alt (n : Nat) : Alt n (det n : Mx K → K) where
  congr h := det_congr h
  row {A B C t r} hr h hB hC := by
    rw [← det_tr n A, ← det_tr n B, ← det_tr n C]
    exact det_col hr (fun i => h i) (fun i j hj => congrFun (hB j hj) i) (fun i j hj => congrFun (hC j hj) i)
  adj {A r} hr h := by
    rw [← det_tr]
    exact det_adj hr (fun i => congrFun h i)


theorem Alt.swap_of {n : Nat} {F : Mx K → K} (h : Alt n F) {p q : Nat} (hp : p < n) (hq : q < n) (hne : p ≠ q) (hz : ∀ A : Mx K, A p = A q → F A = 0) (A : Mx K) : F (swap A p q) = -F A := by
  -- rows p and q both x + y
  let v : Nat → K := fun j => A p j + A q j
  let S : (Nat → K) → (Nat → K) → Mx K := fun x y => setr (setr A p x) q y
  have hS : ∀ x y, S x y p = x ∧ S x y q = y := fun x y => ⟨by show setr _ q y p = x; rw [setr_ne _ _ hne, setr_at], setr_at _ _ _⟩
  have hSo : ∀ x y i, i ≠ p → i ≠ q → S x y i = A i := fun x y i h1 h2 => by show setr _ q y i = _; rw [setr_ne _ _ h2, setr_ne _ _ h1]
  have hrow1 : ∀ x x' y, F (S (fun j => x j + x' j) y) = F (S x y) + F (S x' y) := fun x x' y => by
    have := h.row (A := S (fun j => x j + x' j) y) (B := S x y) (C := S x' y) (t := 1) hp (fun j => by rw [(hS _ _).1, (hS _ _).1, (hS _ _).1, one_mul])
      (fun i hi => by
        by_cases e : i = q
        · subst e; rw [(hS _ _).2, (hS _ _).2]
        · rw [hSo _ _ i hi e, hSo _ _ i hi e])
      (fun i hi => by
        by_cases e : i = q
        · subst e; rw [(hS _ _).2, (hS _ _).2]
        · rw [hSo _ _ i hi e, hSo _ _ i hi e])
    rw [this, one_mul]
  have hrow2 : ∀ x y y', F (S x (fun j => y j + y' j)) = F (S x y) + F (S x y') := fun x y y' => by
    have := h.row (A := S x (fun j => y j + y' j)) (B := S x y) (C := S x y') (t := 1) hq (fun j => by rw [(hS _ _).2, (hS _ _).2, (hS _ _).2, one_mul])
      (fun i hi => by
        by_cases e : i = p
        · subst e; rw [(hS _ _).1, (hS _ _).1]
        · rw [hSo _ _ i e hi, hSo _ _ i e hi])
      (fun i hi => by
        by_cases e : i = p
        · subst e; rw [(hS _ _).1, (hS _ _).1]
        · rw [hSo _ _ i e hi, hSo _ _ i e hi])
    rw [this, one_mul]
  have hd : ∀ x, F (S x x) = 0 := fun x => hz _ (by rw [(hS x x).1, (hS x x).2])
  have h0 := hd v
  rw [show S v v = S (fun j => A p j + A q j) v from rfl, hrow1, show S (A p) v = S (A p) (fun j => A p j + A q j) from rfl, show S (A q) v = S (A q) (fun j => A p j + A q j) from rfl, hrow2, hrow2, hd, hd, zero_add, add_zero] at h0
  have e1 : S (A p) (A q) = A := by
    funext i
    by_cases e : i = p
    · subst e; exact (hS _ _).1
    · by_cases e' : i = q
      · subst e'; exact (hS _ _).2
      · exact hSo _ _ i e e'
  have e2 : S (A q) (A p) = swap A p q := by
    funext i
    unfold swap
    by_cases e : i = p
    · subst e; rw [if_pos rfl]; exact (hS _ _).1
    · rw [if_neg e]
      by_cases e' : i = q
      · subst e'; rw [if_pos rfl]; exact (hS _ _).2
      · rw [if_neg e']; exact hSo _ _ i e e'
  rw [e1, e2] at h0
  exact eq_neg h0


/-- Two rows that are the same. -/
theorem Alt.same {n : Nat} {F : Mx K → K} (h : Alt n F) : ∀ (d p : Nat) {A : Mx K}, p + d + 1 < n → A p = A (p + d + 1) → F A = 0
  | 0, p, A, hn, he => h.adj hn he
  | d + 1, p, A, hn, he => by
    have h1 := h.swap_of (p := p + d + 1) (q := p + d + 2) (by omega) (by omega) (by omega) (fun B hB => h.adj (r := p + d + 1) (by omega) hB) A
    have h2 := Alt.same h d p (A := swap A (p + d + 1) (p + d + 2)) (by omega) (by rw [swap_ne (by omega) (by omega), swap_at.1]; exact he)
    rw [h2] at h1
    rw [← neg_neg (F A), ← h1, neg_zero]
theorem Alt.eq {n : Nat} {F : Mx K → K} (h : Alt n F) {p q : Nat} {A : Mx K} (hp : p < n) (hq : q < n) (hne : p ≠ q) (he : A p = A q) : F A = 0 := by
  rcases Nat.lt_or_gt_of_ne hne with h1 | h1
  · exact h.same (q - p - 1) p (by omega) (by rw [he]; congr 1; omega)
  · exact h.same (p - q - 1) q (by omega) (by rw [← he]; congr 1; omega)
theorem Alt.swap {n : Nat} {F : Mx K → K} (h : Alt n F) {p q : Nat} (hp : p < n) (hq : q < n) (hne : p ≠ q) (A : Mx K) : F (swap A p q) = -F A :=
  h.swap_of hp hq hne (fun _ e => h.eq hp hq hne e) A
/-- A multiple of another row is added. -/
theorem Alt.comb {n : Nat} {F : Mx K → K} (h : Alt n F) {p q : Nat} (hp : p < n) (hq : q < n) (hne : p ≠ q) (t : K) (A : Mx K) : F (setr A p (fun j => A p j + t * A q j)) = F A := by
  rw [h.row (B := A) (C := setr A p (A q)) (t := t) hp (fun j => by rw [setr_at, setr_at]) (fun i hi => setr_ne _ _ hi) (fun i hi => by rw [setr_ne _ _ hi, setr_ne _ _ hi]),
    h.eq (A := setr A p (A q)) (p := p) (q := q) hp hq hne (by rw [setr_at, setr_ne _ _ (Ne.symm hne)]), mul_zero, add_zero]
theorem Alt.zero {n : Nat} {F : Mx K → K} (h : Alt n F) {r : Nat} (hr : r < n) {A : Mx K} (hz : ∀ j, j < n → A r j = 0) : F A = 0 := by
  rw [h.congr (A := A) (B := setr A r (fun _ => 0)) (fun i j _ hj => by
    by_cases e : i = r
    · subst e; rw [setr_at]; exact hz j hj
    · rw [setr_ne _ _ e])]
  refine add_self_zero ?_
  have := h.row (A := setr A r (fun _ => 0)) (B := setr A r (fun _ => 0)) (C := setr A r (fun _ => 0)) (t := 1) hr (fun j => by rw [setr_at, mul_zero, add_zero]) (fun _ _ => rfl) (fun _ _ => rfl)
  rw [one_mul] at this
  exact this.symm
/-- A row is multiplied. -/
theorem Alt.scale {n : Nat} {F : Mx K → K} (h : Alt n F) {r : Nat} (hr : r < n) (t : K) (A : Mx K) : F (setr A r (fun j => t * A r j)) = t * F A := by
  rw [h.row (B := setr A r (fun _ => 0)) (C := A) (t := t) hr (fun j => by rw [setr_at, setr_at, zero_add]) (fun i hi => by rw [setr_ne _ _ hi, setr_ne _ _ hi]) (fun i hi => setr_ne _ _ hi),
    h.zero hr (fun j _ => by rw [setr_at]), zero_add]

/-! ### products -/
def mm (n : Nat) (A B : Mx K) : Mx K := fun i j => sm n fun k => A i k * B k j
def idm : Mx K := fun i j => if i = j then 1 else 0

theorem mm_alt {n : Nat} {F : Mx K → K} (h : Alt n F) (B : Mx K) : Alt n (fun A => F (mm n A B)) where
  congr {A A'} he := h.congr fun i j hi hj => sm_congr fun k hk => by rw [he i k hi hk]
  row {A A' C t r} hr h1 h2 h3 := h.row hr (fun j => by
      unfold mm
      rw [← sm_mul, ← sm_add]
      refine sm_congr fun k _ => ?_
      rw [h1 k, add_mul, mul_assoc]) (fun i hi => by unfold mm; rw [h2 i hi]) (fun i hi => by unfold mm; rw [h3 i hi])
  adj {A r} hr he := h.adj hr (by unfold mm; rw [he])

theorem idm_mm {n : Nat} (B : Mx K) {i j : Nat} (hi : i < n) : mm n idm B i j = B i j := by
  unfold mm idm
  rw [sm_one i hi (fun k _ hk => by rw [if_neg (Ne.symm hk), zero_mul]), if_pos rfl, one_mul]
theorem det_idm : ∀ n : Nat, det n (idm : Mx K) = 1
  | 0 => rfl
  | n + 1 => by
    unfold det
    rw [sm_one 0 (by omega) (fun j _ hj => by unfold idm; rw [if_neg (Ne.symm hj), zero_mul, mul_zero])]
    have e : det n (minor (idm : Mx K) 0) = det n idm := det_congr fun i k _ _ => by
      show (if i + 1 = skip 0 k then (1 : K) else 0) = if i = k then 1 else 0
      rw [show skip 0 k = k + 1 by unfold skip; split <;> omega]
      by_cases h : i = k
      · rw [if_pos h, if_pos (by omega)]
      · rw [if_neg h, if_neg (by omega)]
    rw [e, det_idm n]
    show (1 : K) * ((if 0 = 0 then 1 else 0) * 1) = 1
    rw [if_pos rfl, one_mul, one_mul]

end
end Go.Lr

