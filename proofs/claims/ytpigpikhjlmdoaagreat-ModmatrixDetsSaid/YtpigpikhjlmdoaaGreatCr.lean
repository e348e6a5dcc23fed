/- The bound of a determinant of integers. No condition. -/
import Derived.Test.YtpigpikhjlmdoaaGreatM48
import Derived.Test.YtpigpikhjlmdoaaGreatM40
namespace Go.La

/-- The product of n integers. -/
def pz : Nat → (Nat → Int) → Int
  | 0, _ => 1
  | n + 1, f => pz n f * f n
theorem pz_q : ∀ (n : Nat) (f : Nat → Int), ((pz n f : Int) : Rat) = pd n fun i => (f i : Rat)
  | 0, _ => rfl
  | n + 1, f => by show ((pz n f * f n : Int) : Rat) = _; rw [Rat.intCast_mul, pz_q n f]; rfl
theorem pz_pos : ∀ {n : Nat} {f : Nat → Int}, (∀ i, i < n → 0 < f i) → 0 < pz n f
  | 0, _, _ => by show (0 : Int) < 1; decide
  | n + 1, f, h => Int.mul_pos (pz_pos fun i hi => h i (by omega)) (h n (by omega))
theorem le_of_sq {x y : Int} (hy : 0 ≤ y) (h : x * x ≤ y * y) : -y ≤ x ∧ x ≤ y := by
  constructor
  · rcases Int.lt_or_le x (-y) with h1 | h1
    · have := Int.mul_le_mul (show y + 1 ≤ -x by omega) (show y + 1 ≤ -x by omega) (by omega) (by omega)
      rw [Int.neg_mul_neg, Int.add_mul, Int.mul_add, Int.one_mul, Int.mul_one] at this
      omega
    · exact h1
  · rcases Int.lt_or_le y x with h1 | h1
    · have := Int.mul_le_mul (show y + 1 ≤ x by omega) (show y + 1 ≤ x by omega) (by omega) (by omega)
      rw [Int.add_mul, Int.mul_add, Int.one_mul, Int.mul_one] at this
      omega
    · exact h1
theorem det_bound {n : Nat} {A : Mx Int} {r : Nat → Int} (hr : ∀ i, i < n → 0 ≤ r i ∧ Lr.sm n (fun j => A i j * A i j) ≤ r i * r i) : -(pz n r) ≤ Lr.det n A ∧ Lr.det n A ≤ pz n r := by
  have hp : 0 ≤ pz n r := by
    have : ∀ m, m ≤ n → 0 ≤ pz m r := fun m => by
      induction m with
      | zero => exact fun _ => by show (0 : Int) ≤ 1; decide
      | succ m ih => exact fun hm => Int.mul_nonneg (ih (by omega)) (hr m (by omega)).1
    exact this n (Nat.le_refl n)
  refine le_of_sq hp ?_
  have h1 := Fq.hom_q.det n A
  rw [Lr.det_la] at h1
  have h2 := hadamard n fun i j => ((A i j : Int) : Rat)
  have h3 : (pd n fun i => ip n (fun j => ((A i j : Int) : Rat)) fun j => ((A i j : Int) : Rat)) ≤ pd n fun i => ((r i * r i : Int) : Rat) := pd_le fun i hi => by
    refine ⟨ip_self _ _, ?_⟩
    have e : ip n (fun j => ((A i j : Int) : Rat)) (fun j => ((A i j : Int) : Rat)) = ((Lr.sm n (fun j => A i j * A i j) : Int) : Rat) := by
      rw [Fq.hom_q.sm, Lr.sm_la]
      exact sm_congr fun j _ => (Rat.intCast_mul _ _).symm
    rw [e]
    exact Rat.intCast_le_intCast.2 (hr i hi).2
  have h4 : (pd n fun i => ((r i * r i : Int) : Rat)) = ((pz n r * pz n r : Int) : Rat) := by
    rw [Rat.intCast_mul, pz_q, ← pd_mul]
    exact pd_congr fun i _ => Rat.intCast_mul _ _
  have h5 : ((Lr.det n A * Lr.det n A : Int) : Rat) ≤ ((pz n r * pz n r : Int) : Rat) := by
    rw [Rat.intCast_mul, ← h4]
    have h1' : ((Lr.det n A : Int) : Rat) = La.det n fun i j => ((A i j : Int) : Rat) := h1
    rw [h1']
    exact Rat.le_trans h2 h3
  exact Rat.intCast_le_intCast.1 h5
end Go.La
