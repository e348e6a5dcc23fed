/- Laws of layer 10: the modular law, complements and annihilators. -/
import Derived.Test.YtocjmbilepbokaaGreatB146
namespace Go.Proofs.YtocjmbilepbokaaGreat
open Go.Hp
variable {G : World} {U U' : UH} {M M' : MH}

theorem sp_add {r n : Nat} {A : Nat → Nat → Rat} {u v w : Nat → Rat} (hu : La.Sp r n A u) (hv : La.Sp r n A v) (e : ∀ j, j < n → w j = u j + v j) : La.Sp r n A w :=
  (hu.comb 1 hv).congr (fun _ _ _ _ => rfl) fun j hj => by rw [e j hj, Rat.one_mul]
theorem sp_sub {r n : Nat} {A : Nat → Nat → Rat} {u v w : Nat → Rat} (hu : La.Sp r n A u) (hv : La.Sp r n A v) (e : ∀ j, j < n → w j = u j - v j) : La.Sp r n A w :=
  (hu.comb (-1) hv).congr (fun _ _ _ _ => rfl) fun j hj => by rw [e j hj]; grind

theorem modular {a b c s l i r n : Nat} {A B C S L I R : Nat → Nat → Rat} (hB : ∀ v, La.Sp b n B v → La.Sp a n A v) (hS : La.Same s (b + c) n S (La.stack b B C)) (hL : ∀ v, La.Sp l n L v ↔ La.Sp a n A v ∧ La.Sp s n S v)
    (hI : ∀ v, La.Sp i n I v ↔ La.Sp a n A v ∧ La.Sp c n C v) (hR : La.Same r (b + i) n R (La.stack b B I)) (v : Nat → Rat) : La.Sp l n L v ↔ La.Sp r n R v := by
  rw [hL, hS.sp, hR.sp, La.sp_stack, La.sp_stack]
  constructor
  · rintro ⟨h1, u, w, h2, h3, h4⟩
    exact ⟨u, w, h2, (hI w).2 ⟨sp_sub h1 (hB u h2) fun j hj => by rw [h4 j hj]; grind, h3⟩, h4⟩
  · rintro ⟨u, w, h2, h3, h4⟩
    obtain ⟨h5, h6⟩ := (hI w).1 h3
    exact ⟨sp_add (hB u h2) h5 h4, u, w, h2, h6, h4⟩

end Go.Proofs.YtocjmbilepbokaaGreat
