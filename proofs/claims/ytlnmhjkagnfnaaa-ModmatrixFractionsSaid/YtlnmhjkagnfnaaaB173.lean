/- The law of layer 13 on fractions and their residues. -/
import Derived.Test.YtlnmhjkagnfnaaaM43
import Derived.Test.YtlnmhjkagnfnaaaB165
import Derived.Test.YtlnmhjkagnfnaaaM44
import Derived.Test.YtlnmhjkagnfnaaaM95
import Derived.Test.YtlnmhjkagnfnaaaB172
namespace Go.Proofs.Ytlnmhjkagnfnaaa
open Go.Hp Go.Fq
variable {G : World} {U U' : UH} {M : MH}

theorem abs_in {a b : Int} (h : (a.natAbs : Int) ≤ b) : -b ≤ a ∧ a ≤ b := by omega
/-- The residue of a fraction, made by Chinese remainders. -/
theorem frac_res {X n d m k : Int} (h1 : d ∣ X - 0) (h2 : m ∣ X - 1) : m ∣ n - d * (X / d * n + k * m) := by
  have e : d * (X / d) = X := Int.mul_ediv_cancel' (by simpa using h1)
  have e2 : n - d * (X / d * n + k * m) = -(X - 1) * n - m * (d * k) := by
    rw [Int.mul_add, ← Int.mul_assoc d, e, Int.neg_mul, Int.sub_mul, Int.one_mul, Int.mul_comm k m, Int.mul_left_comm d m k]
    omega
  rw [e2]
  exact Int.dvd_sub (Int.dvd_mul_of_dvd_left (Int.dvd_neg.2 h2)) (Int.dvd_mul_right ..)

theorem out_two {a b X K e : Int} (ha : 1 ≤ a) (hb : 1 ≤ b) (hg : Int.gcd a b = 1) (h : Out (fun i => if i = 0 then 0 else 1) (fun i => if i = 0 then a else b) 2 X K e) :
    e = 0 ∧ 0 ≤ X ∧ X < K ∧ K = a * b ∧ a ∣ X - 0 ∧ b ∣ X - 1 := by
  have hm : ∀ i, i < 2 → 1 ≤ (if i = 0 then a else b) := fun i _ => by split <;> assumption
  have key : ∀ {i : Nat} {x M : Int}, i < 2 → Ch (fun i => if i = 0 then 0 else 1) (fun i => if i = 0 then a else b) i x M → Int.gcd M (if i = 0 then a else b) = 1 := by
    intro i x M hi hC
    cases hC with
    | zero => exact Int.one_gcd
    | @succ i x M u hC _ _ _ =>
      obtain rfl : i = 0 := by omega
      cases hC
      simpa using hg
  cases h with
  | ok hC =>
    have hf := hC.fact
    cases hC with
    | succ hC _ _ _ =>
      cases hC with
      | succ hC _ _ _ =>
        cases hC
        refine ⟨rfl, hf.2.1, hf.2.2.1, by simp, (hf.2.2.2.2 0 (by decide)).2, (hf.2.2.2.2 1 (by decide)).2⟩
  | range hi hC h1 => have := hm _ hi; omega
  | coprime hi hC h1 h2 => exact absurd (key hi hC) h2

end Go.Proofs.Ytlnmhjkagnfnaaa
