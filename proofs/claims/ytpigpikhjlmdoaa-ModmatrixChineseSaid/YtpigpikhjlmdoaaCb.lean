/- Rings: maps between them, power series, rows taken apart. No condition. -/
import Derived.Test.YtpigpikhjlmdoaaCa
namespace Go.Lr
open Go.La (Mx setr setr_at setr_ne swap swap_at swap_ne skip skip_lt Fld)

instance ofFld {K : Type} [Fld K] : Rg K where
  add_assoc := Fld.add_assoc
  add_comm := Fld.add_comm
  zero_add := Fld.zero_add
  neg_add := Fld.neg_add
  mul_assoc := Fld.mul_assoc
  mul_comm := Fld.mul_comm
  one_mul := Fld.one_mul
  mul_add := Fld.mul_add

instance : Rg Int where
  add_assoc := Int.add_assoc
  add_comm := Int.add_comm
  zero_add := Int.zero_add
  neg_add := Int.add_left_neg
  mul_assoc := Int.mul_assoc
  mul_comm := Int.mul_comm
  one_mul := Int.one_mul
  mul_add := Int.mul_add

/-! ### maps -/
structure Hom {R S : Type} [Rg R] [Rg S] (φ : R → S) : Prop where
  zero : φ 0 = 0
  one : φ 1 = 1
  add : ∀ a b, φ (a + b) = φ a + φ b
  mul : ∀ a b, φ (a * b) = φ a * φ b
theorem Hom.neg {R S : Type} [Rg R] [Rg S] {φ : R → S} (h : Hom φ) (a : R) : φ (-a) = -φ a := eq_neg (by rw [← h.add, add_neg_self, h.zero])
theorem Hom.sm {R S : Type} [Rg R] [Rg S] {φ : R → S} (h : Hom φ) : ∀ (n : Nat) (f : Nat → R), φ (sm n f) = Lr.sm n fun k => φ (f k)
  | 0, _ => h.zero
  | n + 1, f => by show φ (Lr.sm n f + f n) = Lr.sm n _ + φ (f n); rw [h.add, h.sm n f]
theorem Hom.sgn {R S : Type} [Rg R] [Rg S] {φ : R → S} (h : Hom φ) : ∀ n : Nat, φ (sgn n) = Lr.sgn n
  | 0 => h.one
  | n + 1 => by show φ (-Lr.sgn n) = -Lr.sgn n; rw [h.neg, h.sgn n]
theorem Hom.det {R S : Type} [Rg R] [Rg S] {φ : R → S} (h : Hom φ) : ∀ (n : Nat) (A : Mx R), φ (det n A) = Lr.det n fun i j => φ (A i j)
  | 0, _ => h.one
  | n + 1, A => by
    show φ (Lr.sm (n + 1) _) = Lr.sm (n + 1) _
    rw [h.sm]
    refine sm_congr fun j _ => ?_
    rw [h.mul, h.mul, h.sgn, h.det n]
    rfl

def tau (p q i : Nat) : Nat := if i = p then q else if i = q then p else i
section
variable {K : Type} [Rg K]

/-! ### a row taken apart -/
/-! ### the transpose: steps on columns -/
end

/-! ### power series -/
def PS (K : Type) : Type := Nat → K
section
variable {K : Type} [Rg K]

theorem tri : ∀ (n : Nat) (G : Nat → Nat → Nat → K), sm (n + 1) (fun i => sm (i + 1) fun j => G j (i - j) (n - i)) = sm (n + 1) fun j => sm (n - j + 1) fun k => G j k (n - j - k)
  | 0, G => rfl
  | n + 1, G => by
    have h1 : sm (n + 2) (fun i => sm (i + 1) fun j => G j (i - j) (n + 1 - i)) = sm (n + 2) (fun i => G 0 i (n + 1 - i)) + sm (n + 2) fun i => sm i fun j => G (j + 1) (i - (j + 1)) (n + 1 - i) := by
      rw [← sm_add]
      exact sm_congr fun i _ => by rw [sm_left]; rfl
    have h2 : (sm (n + 2) fun i => sm i fun j => G (j + 1) (i - (j + 1)) (n + 1 - i)) = sm (n + 1) (fun i => sm (i + 1) fun j => G (j + 1) (i - j) (n - i)) := by
      rw [sm_left, show sm 0 (fun j => G (j + 1) (0 - (j + 1)) (n + 1 - 0)) = 0 from rfl, zero_add]
      refine sm_congr fun i _ => sm_congr fun j _ => ?_
      rw [show i + 1 - (j + 1) = i - j by omega, show n + 1 - (i + 1) = n - i by omega]
    have h3 : (sm (n + 1) fun j => sm (n - j + 1) fun k => G (j + 1) k (n - j - k)) = sm (n + 1) fun j => sm (n + 1 - (j + 1) + 1) fun k => G (j + 1) k (n + 1 - (j + 1) - k) := sm_congr fun j _ => by rw [show n + 1 - (j + 1) = n - j by omega]
    rw [h1, h2, tri n fun j => G (j + 1), h3]
    exact (sm_left (n + 1) fun j => sm (n + 1 - j + 1) fun k => G j k (n + 1 - j - k)).symm

def pmul (f g : Nat → K) : Nat → K := fun n => sm (n + 1) fun i => (f i * g (n - i) : K)
theorem sm_rev : ∀ (n : Nat) (f : Nat → K), sm (n + 1) (fun i => (f (n - i) : K)) = sm (n + 1) f
  | 0, _ => rfl
  | n + 1, f => by
    have e : sm (n + 1) (fun k => f (n + 1 - (k + 1))) = sm (n + 1) fun k => f (n - k) := sm_congr fun k _ => by rw [show n + 1 - (k + 1) = n - k by omega]
    rw [sm_left, e, sm_rev n f, Nat.sub_zero, add_comm]
    rfl

instance : Rg (PS K) where
  zero := fun _ => (0 : K)
  one := fun n => if n = 0 then (1 : K) else 0
  add f g := fun n => (f n + g n : K)
  neg f := fun n => (-(f n) : K)
  mul f g := pmul f g
  add_assoc a b c := funext fun n => add_assoc (a n : K) (b n) (c n)
  add_comm a b := funext fun n => add_comm (a n : K) (b n)
  zero_add a := funext fun n => zero_add (a n : K)
  neg_add a := funext fun n => neg_add_self (a n : K)
  mul_assoc a b c := funext fun n => by
    show sm (n + 1) (fun i => sm (i + 1) (fun j => (a j : K) * b (i - j)) * c (n - i)) = sm (n + 1) fun j => (a j : K) * sm (n - j + 1) fun k => b k * c (n - j - k)
    have h1 := tri n fun j k l => ((a j : K) * b k) * c l
    have h2 : sm (n + 1) (fun i => sm (i + 1) (fun j => (a j : K) * b (i - j)) * c (n - i)) = sm (n + 1) (fun i => sm (i + 1) fun j => ((a j : K) * b (i - j)) * c (n - i)) := sm_congr fun i _ => (sm_mul' _ _ _).symm
    rw [h2, h1]
    refine sm_congr fun j _ => ?_
    rw [← sm_mul]
    exact sm_congr fun k _ => mul_assoc _ _ _
  mul_comm a b := funext fun n => by
    show sm (n + 1) (fun i => (a i : K) * b (n - i)) = sm (n + 1) fun i => (b i : K) * a (n - i)
    rw [← sm_rev]
    refine sm_congr fun i hi => ?_
    rw [show n - (n - i) = i by omega, mul_comm]
  one_mul a := funext fun n => by
    show sm (n + 1) (fun i => (if i = 0 then (1 : K) else 0) * a (n - i)) = a n
    rw [sm_one 0 (by omega) (fun j _ hj => by rw [if_neg hj, zero_mul]), if_pos rfl, one_mul]; rfl
  mul_add a b c := funext fun n => by
    show sm (n + 1) (fun i => (a i : K) * (b (n - i) + c (n - i))) = sm (n + 1) (fun i => (a i : K) * b (n - i)) + sm (n + 1) fun i => (a i : K) * c (n - i)
    rw [← sm_add]
    exact sm_congr fun i _ => mul_add _ _ _

/-- A series of two terms, times another. -/
def two (a b : K) : PS K := fun n => if n = 0 then a else if n = 1 then b else 0
/-- One minus x times a matrix. -/
def cm (A : Mx K) : Mx (PS K) := fun i j => two (idm i j) (-(A i j))
/-- The coefficients of its determinant: those of the characteristic polynomial, from the highest down. -/
def cp (n : Nat) (A : Mx K) (k : Nat) : K := (det n (cm A) : PS K) k
def pmap {R S : Type} (φ : R → S) (f : PS R) : PS S := fun n => φ (f n)
end
end Go.Lr
