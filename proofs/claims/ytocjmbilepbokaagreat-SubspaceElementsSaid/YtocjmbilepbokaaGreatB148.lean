/- Laws of layer 10: complements and annihilators. -/
import Derived.Test.YtocjmbilepbokaaGreatB147
namespace Go.Proofs.YtocjmbilepbokaaGreat
open Go.Hp
variable {G : World} {U U' : UH} {M M' : MH}

theorem dual_back {n a s t : Nat} {A N B : Nat → Nat → Rat} {pa q1 q2 : Nat → Nat} (hA : La.Ech a n A pa) (k1 : La.KerOf n a s (La.tr A) N q1) (k2 : La.KerOf n s t (La.tr N) B q2) (v : Nat → Rat) : La.Sp t n B v ↔ La.Sp a n A v := by
  rw [← k2.sp, La.perp_perp hA, La.ker_dot]
  constructor
  · intro h y hy
    rw [La.dot_comm]
    exact La.dot_sp ((k1.sp y).1 hy) fun i hi => by rw [La.dot_comm]; exact h i hi
  · exact fun h i hi => h _ ((k1.sp _).2 (La.Sp.row hi))

theorem dual_sum {n a b s d s1 s2 : Nat} {A B S D N1 N2 : Nat → Nat → Rat} {qd q1 q2 : Nat → Nat} (mS : La.Same s (a + b) n S (La.stack a A B)) (kS : La.KerOf n s d (La.tr S) D qd) (kA : La.KerOf n a s1 (La.tr A) N1 q1) (kB : La.KerOf n b s2 (La.tr B) N2 q2) (v : Nat → Rat) :
    La.Sp d n D v ↔ La.Sp s1 n N1 v ∧ La.Sp s2 n N2 v := by
  rw [← kS.sp, ← kA.sp, ← kB.sp, La.ker_dot, La.ker_dot, La.ker_dot]
  constructor
  · intro h
    have h1 : ∀ x, La.Sp s n S x → La.dot n v x = 0 := fun x hx => by
      rw [La.dot_comm]
      exact La.dot_sp hx fun i hi => by rw [La.dot_comm]; exact h i hi
    exact ⟨fun i hi => h1 _ (mS.sp.2 (La.sp_left (La.Sp.row hi))), fun i hi => h1 _ (mS.sp.2 (La.sp_right (La.Sp.row hi)))⟩
  · rintro ⟨h1, h2⟩ i hi
    rw [La.dot_comm]
    refine La.dot_sp (mS.lt i hi) fun k hk => ?_
    rw [La.dot_comm]
    by_cases e : k < a
    · rw [La.stack_lt e]; exact h1 k e
    · rw [show k = a + (k - a) by omega, La.stack_add]; exact h2 _ (by omega)

end Go.Proofs.YtocjmbilepbokaaGreat
