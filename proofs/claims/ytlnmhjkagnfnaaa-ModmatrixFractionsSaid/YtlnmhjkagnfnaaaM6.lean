/- Texts of this seat's own, merged: each begins with its own remark. -/
import Derived.Test.YtlnmhjkagnfnaaaM2
import Derived.Test.YtlnmhjkagnfnaaaM3
import Derived.Test.YtlnmhjkagnfnaaaM4
import Derived.Test.YtlnmhjkagnfnaaaM5
/- Walks of layer 1: the decimal form of an integer. -/
namespace Go.Proofs.Ytlnmhjkagnfnaaa
open Go.Hp
variable {G : World} {U : UH} {M : MH}

/-- The outer i elements on both sides are exchanged. -/
def Rev (r s : List Nat) (n i : Nat) : Prop := s.length = n ∧ ∀ k, k < n → s[k]? = if k < i ∨ n - i ≤ k then r[n - 1 - k]? else r[k]?

theorem Rev.step {r s : List Nat} {n i x y : Nat} (h : Rev r s n i) (_hn : r.length = n) (hi : i + 1 < n - i) (hx : r[i]? = some x) (hy : r[n - 1 - i]? = some y) : Rev r ((s.set i y).set (n - 1 - i) x) n (i + 1) := by
  obtain ⟨h1, h2⟩ := h
  refine ⟨by simp [h1], fun k hk => ?_⟩
  rw [List.getElem?_set, List.getElem?_set]
  simp only [List.length_set, h1]
  by_cases h3 : n - 1 - i = k
  · subst h3
    have e : n - 1 - (n - 1 - i) = i := by omega
    rw [if_pos rfl, if_pos hk, if_pos (by omega), e, hx]
  · rw [if_neg h3]
    by_cases h4 : i = k
    · subst h4
      rw [if_pos rfl, if_pos hk, if_pos (by omega), hy]
    · rw [if_neg h4, h2 k hk]
      by_cases h5 : k < i ∨ n - i ≤ k
      · rw [if_pos h5, if_pos (by omega)]
      · rw [if_neg h5, if_neg (by omega)]

theorem Rev.done {r s : List Nat} {n i : Nat} (h : Rev r s n i) (hn : r.length = n) (hi : n ≤ i + i + 1) : s = r.reverse := by
  obtain ⟨h1, h2⟩ := h
  refine List.ext_getElem? fun k => ?_
  by_cases hk : k < n
  · rw [h2 k hk, List.getElem?_reverse (by omega), hn]
    by_cases h5 : k < i ∨ n - i ≤ k
    · rw [if_pos h5]
    · rw [if_neg h5, show n - 1 - k = k by omega]
  · rw [List.getElem?_eq_none (by omega), List.getElem?_eq_none (by simp; omega)]

theorem OwnB.form {D : MH} {p : Option Addr} {n c : Nat} {l : List Nat} (h : OwnB D p n c l) (h0 : l ≠ []) :
    ∃ b t, D = [(b, .arr (l.map by8 ++ t), TU8)] ∧ p = some ⟨b, 0, none⟩ ∧ l.length = n ∧ n + t.length = c ∧ c ≤ 9223372036854775807 ∧ ∀ v ∈ t, v.cells.toList.length = 1 := by
  cases h with
  | nil => exact absurd rfl h0
  | arr hn hc hm hb ht => exact ⟨_, _, rfl, rfl, hn, hc, hm, ht⟩

end Go.Proofs.Ytlnmhjkagnfnaaa

/- Walks of the laws' own helpers: awake, long. -/
namespace Go.Proofs.Ytlnmhjkagnfnaaa
open Go.Hp
variable {G : World} {U : UH} {M : MH}

/-- The integers of a list that the caller has made. -/
structure Ivs (U : UH) (M : MH) (b : Nat) (xs : List IV) : Prop where
  get : ∀ (k : Nat) (x : IV), xs[k]? = some x → ∀ (G : World) (w : World), Mem G U M w → w.cell? ⟨b, k * 2 + 1, none⟩ = some (.slice x.p x.n x.c)
  getN : ∀ (k : Nat) (x : IV), xs[k]? = some x → ∀ (G : World) (w : World), Mem G U M w → w.cell? ⟨b, k * 2, none⟩ = some (.bool x.neg)
theorem Ivs.app {b : Nat} {xs : List IV} (h : Ivs U M b xs) (M2 : MH) : Ivs U (M2 ++ M) b xs :=
  ⟨fun k x hk G w hw => h.get k x hk G w (hw.anti (ULe.refl U) (List.sublist_append_right ..)), fun k x hk G w hw => h.getN k x hk G w (hw.anti (ULe.refl U) (List.sublist_append_right ..))⟩
end Go.Proofs.Ytlnmhjkagnfnaaa

/- The law on common divisors. -/
namespace Go.Proofs.Ytlnmhjkagnfnaaa
open Go.Hp
variable {G : World} {U : UH} {M : MH}

end Go.Proofs.Ytlnmhjkagnfnaaa
