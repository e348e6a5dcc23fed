/- Walks of the reference of layer 9: determinants by the first row. -/
import Derived.Test.YtcfgogamamdipaaM21
namespace Go.Proofs.Ytcfgogamamdipaa
open Go.Hp
variable {G : World} {U : UH} {M : MH}

/-- How long a determinant may be. -/
def dsz (k : Nat) : Nat → Nat
  | 0 => 1
  | n + 1 => 1 + (n + 1) * (k + dsz k n + 1)
theorem szq_sgn {q : Rat} {k : Nat} (h : Szq q k) : ∀ j, Szq (La.sgn j * q) k
  | 0 => by rw [show (La.sgn 0 : Rat) = 1 from rfl, Rat.one_mul]; exact h
  | j + 1 => by
    rw [show (La.sgn (j + 1) : Rat) = -La.sgn j from rfl, Rat.neg_mul]; exact (szq_sgn h j).neg
theorem dsz_pos (k n : Nat) : 1 ≤ dsz k n := by cases n <;> simp only [dsz] <;> omega
theorem det_sz {k : Nat} : ∀ {n : Nat} {A : Nat → Nat → Rat}, (∀ i j, i < n → j < n → Szq (A i j) k) → Szq (La.det n A) (dsz k n)
  | 0, _, _ => szq_int1
  | n + 1, A, h => by
    unfold La.det dsz
    exact szq_sm fun j hj => szq_sgn ((h 0 j (by omega) hj).mul (det_sz (n := n) fun i l hi hl => h _ _ (by omega) (La.skip_lt hl))) j
theorem sgn_odd : ∀ j : Nat, (La.sgn j : Rat) = if j % 2 = 1 then -1 else 1
  | 0 => rfl
  | j + 1 => by
    show -La.sgn j = _
    rw [sgn_odd j]
    by_cases h : j % 2 = 1
    · rw [if_pos h, if_neg (by omega)]; rfl
    · rw [if_neg h, if_pos (by omega)]

end Go.Proofs.Ytcfgogamamdipaa
