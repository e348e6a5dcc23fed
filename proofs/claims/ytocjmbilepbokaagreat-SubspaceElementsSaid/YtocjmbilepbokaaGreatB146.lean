/- Laws of layer 10: images and preimages. -/
import Derived.Test.YtocjmbilepbokaaGreatB145
namespace Go.Proofs.YtocjmbilepbokaaGreat
open Go.Hp
variable {G : World} {U U' : UH} {M M' : MH}

theorem three_rows {α : Type} {P : Nat → α → Prop} {a b c : α} (h0 : P 0 a) (h1 : P 1 b) (h2 : P 2 c) : ∀ k v, [a, b, c][k]? = some v → P k v
  | 0, v, h => by cases h; exact h0
  | 1, v, h => by cases h; exact h1
  | 2, v, h => by cases h; exact h2
  | k + 3, v, h => by simp at h
theorem Gw.same {w r s n : Nat} {R S : Nat → Nat → Rat} (h : Gw w r n R) (e : La.Same s r n S R) : Gw w s n S := by
  obtain ⟨k, T, h1, h2⟩ := h
  exact ⟨k, T, h1, e.trans h2⟩
theorem LitS.of {d r c : Int} {n : Nat} {f : Nat → Rat} {a : Value} (h : Lit 6 U (.agg #[.int .i64 r, .int .i64 c, a]) r c n f) : LitS U (.agg #[.int .i64 d, .int .i64 r, .int .i64 c, a]) d r c n f := ⟨_, rfl, h⟩
theorem RawS.raw {d r c : Int} {n : Nat} {f : Nat → Rat} {a : Value} (h : RawS U (.agg #[.int .i64 d, .int .i64 r, .int .i64 c, a]) d r c n f) : Raw U (.agg #[.int .i64 r, .int .i64 c, a]) r c n f := by
  obtain ⟨-, a', h1, h2⟩ := h
  simp only [Value.agg.injEq, Array.mk.injEq, List.cons.injEq, and_true, true_and] at h1
  subst h1
  exact h2

end Go.Proofs.YtocjmbilepbokaaGreat
