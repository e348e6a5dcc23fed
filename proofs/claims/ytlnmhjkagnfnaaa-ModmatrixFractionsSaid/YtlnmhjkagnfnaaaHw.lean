/- A cut on a sequence. -/
import Derived.Test.YtlnmhjkagnfnaaaM19
namespace Go.Hp

/-- A cut behind a region that is the first of two. -/
theorem st_cutK {P : Program} {K : Kont} {N : Nat} {G : World} {E : Env} {U : UH} {M : MH} (Φ : Env → UH → MH → Prop) {x y : Code} (h1 : St P (kcut N G Φ K) N G x E U M) (h2 : ∀ E U M, Φ E U M → St P K N G y E U M) : St P (kseq P y K) N G x E U M := by
  refine ⟨fun a w ha hw => wp_mono (h1.run a w ha hw) ?_⟩
  intro e a w hq
  cases e <;> try exact hq
  obtain ⟨E, U, M, hp, ha, hw⟩ := hq
  exact (h2 E U M hp).run a w ha hw
end Go.Hp
