/- Texts of this seat's own, merged: each begins with its own remark. -/
import Derived.Test.YtlnmhjkagnfnaaaM18
import Derived.Test.YtlnmhjkagnfnaaaM14
/- Simplest fractions: the plain law. -/
namespace Go.Proofs.Ytlnmhjkagnfnaaa
open Go.Hp

/-- y lies between lo and hi; the ends belong or not, and there may be no upper end. -/
def InS (lo hi : Rat) (li hiI e : Bool) (y : Rat) : Prop := (lo < y ∨ (li = true ∧ lo = y)) ∧ (e = true ∨ y < hi ∨ (hiI = true ∧ y = hi))
def Opt (lo hi : Rat) (li hiI e : Bool) (r : Rat) : Prop := InS lo hi li hiI e r ∧ ∀ y, InS lo hi li hiI e y → r.num ≤ y.num ∧ r.den ≤ y.den

theorem rat_num_eq (y : Rat) : (y.num : Rat) = y * (y.den : Rat) := by
  have h := rat_self y
  have hd : (y.den : Rat) ≠ 0 := by
    intro e
    have := Rat.natCast_eq_zero_iff.1 e
    exact y.den_nz this
  have h2 : y * ((y.den : Int) : Rat) = (y.num : Rat) := by
    refine Rat.ext ?_ ?_
    · rw [Rat.num_mul]; simp
      have := y.reduced
      rw [Int.natAbs_mul, Int.natAbs_natCast]
      rw [Nat.gcd_mul_left_left]
      rw [Int.mul_ediv_cancel]
      have := y.den_nz
      omega
    · rw [Rat.den_mul]; simp
      rw [Int.natAbs_mul, Int.natAbs_natCast, Nat.gcd_mul_left_left]
      exact Nat.div_self y.den_pos
  exact h2.symm

/-! ### intervals -/
/-- r is the simplest of the numbers above lo up to hi. -/
def Best (lo hi r : Rat) : Prop := lo < r ∧ r ≤ hi ∧ (∀ y, lo < y → y ≤ hi → r.den ≤ y.den) ∧ (r.den = 1 → ∀ y, lo < y → y ≤ hi → y.den = 1 → r.num.natAbs ≤ y.num.natAbs)

theorem Best.sz {lo hi r : Rat} {K : Nat} (h : Best lo hi r) (h1 : Szq lo K) (h2 : Szq hi K) : Szq r (K + K) := by
  obtain ⟨a, b, c, -⟩ := h
  have hd := c hi (by grind) (by grind)
  have hnum : ∀ q : Rat, Szq q K → q ≤ ((4294967296 ^ K : Nat) : Rat) ∧ -((4294967296 ^ K : Nat) : Rat) ≤ q := by
    intro q hq
    have h3 := rat_num_eq q
    have h4 : (1 : Rat) ≤ (q.den : Rat) := by
      have : ((1 : Nat) : Rat) ≤ (q.den : Rat) := Rat.natCast_le_natCast.2 q.den_pos
      exact this
    have h5 : -((4294967296 ^ K : Nat) : Int) ≤ q.num ∧ q.num ≤ ((4294967296 ^ K : Nat) : Int) := by
      have := hq.1
      unfold Sz at this
      omega
    have h6 : ((-((4294967296 ^ K : Nat) : Int) : Int) : Rat) ≤ (q.num : Rat) := Rat.intCast_le_intCast.2 h5.1
    have h7 : (q.num : Rat) ≤ ((((4294967296 ^ K : Nat) : Int) : Int) : Rat) := Rat.intCast_le_intCast.2 h5.2
    rw [Rat.intCast_neg, Rat.intCast_natCast] at h6
    rw [Rat.intCast_natCast] at h7
    by_cases h0 : 0 ≤ q
    · have : q * 1 ≤ q * (q.den : Rat) := Rat.mul_le_mul_of_nonneg_left h4 h0
      have h9 : (0 : Rat) ≤ ((4294967296 ^ K : Nat) : Rat) := Rat.natCast_nonneg
      constructor <;> grind
    · have : (-q) * 1 ≤ (-q) * (q.den : Rat) := Rat.mul_le_mul_of_nonneg_left h4 (by grind)
      have h9 : (0 : Rat) ≤ ((4294967296 ^ K : Nat) : Rat) := Rat.natCast_nonneg
      constructor <;> grind
  have hh := hnum hi h2
  have hl := hnum lo h1
  have hrd : r.den < 4294967296 ^ K := by
    have := h2.2
    unfold Sz at this
    omega
  have h3 := rat_num_eq r
  have hd0 : (0 : Rat) ≤ (r.den : Rat) := Rat.natCast_nonneg
  have u1 : r * (r.den : Rat) ≤ ((4294967296 ^ K : Nat) : Rat) * (r.den : Rat) := Rat.mul_le_mul_of_nonneg_right (by grind) hd0
  have u2 : (-((4294967296 ^ K : Nat) : Rat)) * (r.den : Rat) ≤ r * (r.den : Rat) := Rat.mul_le_mul_of_nonneg_right (by grind) hd0
  rw [← h3] at u1 u2
  have e1 : ((4294967296 ^ K : Nat) : Rat) * (r.den : Rat) = (((4294967296 ^ K * r.den : Nat) : Int) : Rat) := by
    rw [Rat.intCast_natCast, Rat.natCast_mul]
  rw [Rat.neg_mul] at u2
  rw [e1] at u1 u2
  rw [← Rat.intCast_neg] at u2
  have v1 := Rat.intCast_le_intCast.1 u1
  have v2 := Rat.intCast_le_intCast.1 u2
  have hlt : 4294967296 ^ K * r.den < 4294967296 ^ K * 4294967296 ^ K := Nat.mul_lt_mul_of_pos_left hrd (Nat.pow_pos (by decide))
  rw [← Nat.pow_add] at hlt
  refine ⟨?_, ?_⟩
  · unfold Sz; omega
  · unfold Sz
    have : 4294967296 ^ K ≤ 4294967296 ^ (K + K) := Nat.pow_le_pow_right (by decide) (by omega)
    omega

end Go.Proofs.Ytlnmhjkagnfnaaa

/- Walks of rational: simplest fractions. -/
namespace Go.Proofs.Ytlnmhjkagnfnaaa
open Go.Hp
variable {G : World} {U : UH} {M : MH}

/-- A span as the program's struct. -/
def sval (lo hi : QV) (li hiI e : Bool) : Value := .agg #[.bool lo.num.neg, .slice lo.num.p lo.num.n lo.num.c, .bool lo.den.neg, .slice lo.den.p lo.den.n lo.den.c, .bool hi.num.neg, .slice hi.num.p hi.num.n hi.num.c, .bool hi.den.neg, .slice hi.den.p hi.den.n hi.den.c, .bool li, .bool hiI, .bool e]
def smu (lo hi : Rat) (e : Bool) : Nat := if e = true then 0 else lo.den + hi.den

end Go.Proofs.Ytlnmhjkagnfnaaa

/- Walks of rational: simplest fractions, second part. -/
namespace Go.Proofs.Ytlnmhjkagnfnaaa
open Go.Hp
variable {G : World} {U : UH} {M : MH}

/-- An interval as the program's struct. -/
def inval (lo hi : QV) : Value := .agg #[.bool lo.num.neg, .slice lo.num.p lo.num.n lo.num.c, .bool lo.den.neg, .slice lo.den.p lo.den.n lo.den.c, .bool hi.num.neg, .slice hi.num.p hi.num.n hi.num.c, .bool hi.den.neg, .slice hi.den.p hi.den.n hi.den.c]

end Go.Proofs.Ytlnmhjkagnfnaaa
