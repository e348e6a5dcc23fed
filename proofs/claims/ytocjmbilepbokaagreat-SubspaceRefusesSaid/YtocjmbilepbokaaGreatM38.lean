/- Texts of this seat's own, merged: each begins with its own remark. -/
import Derived.Test.YtocjmbilepbokaaGreatM33
import Derived.Test.YtocjmbilepbokaaGreatM27
/- Laws of layer 10: the lattice of subspaces. -/
namespace Go.Proofs.YtocjmbilepbokaaGreat
open Go.Hp
variable {G : World} {U U' : UH} {M M' : MH}

theorem neq_same (b : Bool) : (!(b == b)) = false := by cases b <;> rfl
end Go.Proofs.YtocjmbilepbokaaGreat

/- Laws of layer 10: images and preimages. -/
namespace Go.Proofs.YtocjmbilepbokaaGreat
open Go.Hp
variable {G : World} {U U' : UH} {M M' : MH}

theorem three_rows {α : Type} {P : Nat → α → Prop} {a b c : α} (h0 : P 0 a) (h1 : P 1 b) (h2 : P 2 c) : ∀ k v, [a, b, c][k]? = some v → P k v
  | 0, v, h => by cases h; exact h0
  | 1, v, h => by cases h; exact h1
  | 2, v, h => by cases h; exact h2
  | k + 3, v, h => by simp at h
theorem Gw.same {w r s n : Nat} {R S : Nat → Nat → Rat} (h : Gw w r n R) (e : La.Same s r n S R) : Gw w s n S := by
  obtain ⟨k, T, h1, h2⟩ := h
  exact ⟨k, T, h1, e.trans h2⟩
theorem LitS.of {d r c : Int} {n : Nat} {f : Nat → Rat} {a : Value} (h : Lit 6 U (.agg #[.int .i64 r, .int .i64 c, a]) r c n f) : LitS U (.agg #[.int .i64 d, .int .i64 r, .int .i64 c, a]) d r c n f := ⟨_, rfl, h⟩
theorem RawS.raw {d r c : Int} {n : Nat} {f : Nat → Rat} {a : Value} (h : RawS U (.agg #[.int .i64 d, .int .i64 r, .int .i64 c, a]) d r c n f) : Raw U (.agg #[.int .i64 r, .int .i64 c, a]) r c n f := by
  obtain ⟨-, a', h1, h2⟩ := h
  simp only [Value.agg.injEq, Array.mk.injEq, List.cons.injEq, and_true, true_and] at h1
  subst h1
  exact h2

end Go.Proofs.YtocjmbilepbokaaGreat

/- Laws of layer 10: the modular law, complements and annihilators. -/
namespace Go.Proofs.YtocjmbilepbokaaGreat
open Go.Hp
variable {G : World} {U U' : UH} {M M' : MH}

theorem sp_add {r n : Nat} {A : Nat → Nat → Rat} {u v w : Nat → Rat} (hu : La.Sp r n A u) (hv : La.Sp r n A v) (e : ∀ j, j < n → w j = u j + v j) : La.Sp r n A w :=
  (hu.comb 1 hv).congr (fun _ _ _ _ => rfl) fun j hj => by rw [e j hj, Rat.one_mul]
theorem sp_sub {r n : Nat} {A : Nat → Nat → Rat} {u v w : Nat → Rat} (hu : La.Sp r n A u) (hv : La.Sp r n A v) (e : ∀ j, j < n → w j = u j - v j) : La.Sp r n A w :=
  (hu.comb (-1) hv).congr (fun _ _ _ _ => rfl) fun j hj => by rw [e j hj]; grind

theorem modular {a b c s l i r n : Nat} {A B C S L I R : Nat → Nat → Rat} (hB : ∀ v, La.Sp b n B v → La.Sp a n A v) (hS : La.Same s (b + c) n S (La.stack b B C)) (hL : ∀ v, La.Sp l n L v ↔ La.Sp a n A v ∧ La.Sp s n S v)
    (hI : ∀ v, La.Sp i n I v ↔ La.Sp a n A v ∧ La.Sp c n C v) (hR : La.Same r (b + i) n R (La.stack b B I)) (v : Nat → Rat) : La.Sp l n L v ↔ La.Sp r n R v := by
  rw [hL, hS.sp, hR.sp, La.sp_stack, La.sp_stack]
  constructor
  · rintro ⟨h1, u, w, h2, h3, h4⟩
    exact ⟨u, w, h2, (hI w).2 ⟨sp_sub h1 (hB u h2) fun j hj => by rw [h4 j hj]; grind, h3⟩, h4⟩
  · rintro ⟨u, w, h2, h3, h4⟩
    obtain ⟨h5, h6⟩ := (hI w).1 h3
    exact ⟨sp_add (hB u h2) h5 h4, u, w, h2, h6, h4⟩

end Go.Proofs.YtocjmbilepbokaaGreat

/- Laws of layer 10: complements and annihilators. -/
namespace Go.Proofs.YtocjmbilepbokaaGreat
open Go.Hp
variable {G : World} {U U' : UH} {M M' : MH}

end Go.Proofs.YtocjmbilepbokaaGreat

/- Laws of layer 10: maps on invariant subspaces. -/
namespace Go.Proofs.YtocjmbilepbokaaGreat
open Go.Hp
variable {G : World} {U U' : UH} {M M' : MH}

end Go.Proofs.YtocjmbilepbokaaGreat

/- Laws of layer 10: products of maps on invariant subspaces. -/
namespace Go.Proofs.YtocjmbilepbokaaGreat
open Go.Hp
variable {G : World} {U U' : UH} {M M' : MH}

end Go.Proofs.YtocjmbilepbokaaGreat

/- Laws of layer 10: elements and coordinates. -/
namespace Go.Proofs.YtocjmbilepbokaaGreat
open Go.Hp
variable {G : World} {U U' : UH} {M M' : MH}

end Go.Proofs.YtocjmbilepbokaaGreat
