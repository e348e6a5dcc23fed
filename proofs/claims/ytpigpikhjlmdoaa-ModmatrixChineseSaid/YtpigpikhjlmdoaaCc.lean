/- The characteristic polynomial by traces (Faddeev and LeVerrier). No condition. -/
import Derived.Test.YtpigpikhjlmdoaaCb
namespace Go.Lr
open Go.La (Mx setr setr_at setr_ne swap swap_at swap_ne skip skip_lt Fld)

/-! ### derivations -/
structure Der {R : Type} [Rg R] (D : R → R) : Prop where
  add : ∀ a b, D (a + b) = D a + D b
  mul : ∀ a b, D (a * b) = D a * b + a * D b
section
variable {R : Type} [Rg R] {D : R → R}
theorem Der.zero (h : Der D) : D 0 = 0 := add_self_zero (by rw [← h.add, zero_add])
theorem Der.one (h : Der D) : D 1 = 0 := add_self_zero (by have := h.mul 1 1; rw [mul_one, mul_one, one_mul] at this; exact this.symm)
theorem Der.neg (h : Der D) (a : R) : D (-a) = -D a := eq_neg (by rw [← h.add, add_neg_self, h.zero])
theorem Der.sgn (h : Der D) : ∀ n : Nat, D (sgn n) = 0
  | 0 => h.one
  | n + 1 => by show D (-Lr.sgn n) = 0; rw [h.neg, h.sgn n, neg_zero]
theorem Der.sm (h : Der D) : ∀ (n : Nat) (f : Nat → R), D (sm n f) = Lr.sm n fun k => D (f k)
  | 0, _ => h.zero
  | n + 1, f => by show D (Lr.sm n f + f n) = Lr.sm n _ + D (f n); rw [h.add, h.sm n f]
/-- Row by row. -/
theorem Der.det (h : Der D) : ∀ (n : Nat) (M : Mx R), D (det n M) = Lr.sm n fun i => Lr.det n (setr M i fun j => D (M i j))
  | 0, _ => h.one
  | n + 1, M => by
    have h0 : Lr.det (n + 1) (setr M 0 fun j => D (M 0 j)) = Lr.sm (n + 1) fun j => Lr.sgn j * (D (M 0 j) * Lr.det n (minor M j)) := by
      show Lr.sm (n + 1) _ = _
      refine sm_congr fun j _ => ?_
      rw [setr_at]
      congr 2
    have h1 : ∀ i, Lr.det (n + 1) (setr M (i + 1) fun j => D (M (i + 1) j)) = Lr.sm (n + 1) fun j => Lr.sgn j * (M 0 j * Lr.det n (setr (minor M j) i fun k => D (minor M j i k))) := fun i => by
      show Lr.sm (n + 1) _ = _
      refine sm_congr fun j _ => ?_
      rw [setr_ne _ _ (by omega : 0 ≠ i + 1)]
      congr 2
      refine det_congr fun a b _ _ => ?_
      show setr M (i + 1) _ (a + 1) (skip j b) = _
      by_cases e : a = i
      · subst e; rw [setr_at, setr_at]; rfl
      · rw [setr_ne _ _ e, setr_ne _ _ (by omega)]; rfl
    rw [sm_left, h0, show (fun k => Lr.det (n + 1) (setr M (k + 1) fun j => D (M (k + 1) j))) = fun i => Lr.sm (n + 1) fun j => Lr.sgn j * (M 0 j * Lr.det n (setr (minor M j) i fun k => D (minor M j i k))) from funext h1, sm_comm, ← sm_add]
    show D (Lr.sm (n + 1) _) = _
    rw [h.sm]
    refine sm_congr fun j _ => ?_
    rw [h.mul, h.sgn, zero_mul, zero_add, h.mul, mul_add, h.det n, ← sm_mul, ← sm_mul]
end

section
variable {K : Type} [Rg K]
/-- The natural numbers among them. -/
def nm : Nat → K
  | 0 => 0
  | k + 1 => nm k + 1
def dif (f : PS K) : PS K := fun n => (nm (n + 1) * f (n + 1) : K)
/-- The adjugate. -/
def adj (n : Nat) (M : Mx K) : Mx K := fun j k => det n (setr M k (idm j))
/-- The coefficients of the adjugate of one minus x times a matrix. -/
def Bc (n : Nat) (A : Mx K) (m : Nat) : Mx K := fun i k => (adj n (cm A) i k : PS K) m
end
end Go.Lr
