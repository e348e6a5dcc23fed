/- Texts of this seat's own, merged: each begins with its own remark. -/
import Derived.Test.YtlnmhjkagnfnaaaM21
import Derived.Test.YtlnmhjkagnfnaaaM14
/- Walks of matrix: is it valid; grids of the call's own. -/
namespace Go.Proofs.Ytlnmhjkagnfnaaa
open Go.Hp
variable {G : World} {U : UH} {M : MH}

/-- What a matrix needs to be valid. -/
def Vld (r c : Int) (n : Nat) : Prop := 0 ≤ r ∧ r ≤ 1024 ∧ 0 ≤ c ∧ c ≤ 1024 ∧ (n : Int) = r * c
instance (r c : Int) (n : Nat) : Decidable (Vld r c n) := by unfold Vld; infer_instance
theorem mul_1024 {r c : Int} (h1 : 0 ≤ r) (h2 : r ≤ 1024) (h3 : 0 ≤ c) (h4 : c ≤ 1024) : 0 ≤ r * c ∧ r * c ≤ 1048576 :=
  ⟨Int.mul_nonneg h1 h3, Int.le_trans (Int.mul_le_mul_of_nonneg_right h2 h3) (Int.mul_le_mul_of_nonneg_left h4 (by decide))⟩

end Go.Proofs.Ytlnmhjkagnfnaaa

/- Walks of matrix: grids are made, and laid down as matrices. -/
namespace Go.Proofs.Ytlnmhjkagnfnaaa
open Go.Hp
variable {G : World} {U U' : UH} {M : MH}

/-- The first j elements. -/
def ElTo {α : Type} (ok : UH → Value → α → Prop) (U : UH) (j : Nat) (vs : List Value) (g : Nat → α) : Prop := ∀ k x, k < j → vs[k]? = some x → ok U x (g k)
theorem ElTo.up {α : Type} {ok : UH → Value → α → Prop} {j : Nat} {vs : List Value} {g : Nat → α} (h : ElTo ok U j vs g) (hok : Kept ok) (hU : ULe U U') : ElTo ok U' j vs g := fun k x hk hx => hok _ _ _ _ hU (h k x hk hx)
theorem ElTo.next {α : Type} {ok : UH → Value → α → Prop} {j : Nat} {vs : List Value} {g : Nat → α} {x : Value} (h : ElTo ok U j vs g) (hx : ok U x (g j)) : ElTo ok U (j + 1) (vs.set j x) g := fun k y hk hy => by
  rw [List.getElem?_set] at hy
  by_cases e : j = k
  · subst e
    rw [if_pos rfl] at hy
    split at hy
    · cases hy; exact hx
    · cases hy
  · rw [if_neg e] at hy; exact h k y (by omega) hy
theorem ElTo.all {α : Type} {ok : UH → Value → α → Prop} {n : Nat} {vs : List Value} {g : Nat → α} (h : ElTo ok U n vs g) (hl : vs.length = n) : El ok U vs g := fun k x hk => h k x (by rw [← hl]; exact (List.getElem?_eq_some_iff.1 hk).1) hk

theorem rowO_make {e s b n : Nat} {z : Value} (hz : z.cells.toList.length = s) (hm : n ≤ 9223372036854775807) : RowO e s [(b, .arr (List.replicate n z), e)] (some ⟨b, 0, none⟩) n n (List.replicate n z) :=
  RowO.mk (List.length_replicate ..) (fun v hv => by rw [(List.mem_replicate.1 hv).2]; exact hz) hm

end Go.Proofs.Ytlnmhjkagnfnaaa

/- Walks of matrix: grids are read; rows are added to rows, and divided. -/
namespace Go.Proofs.Ytlnmhjkagnfnaaa
open Go.Hp
variable {G : World} {U U' : UH} {M M' : MH}

/-- Rows that are read wherever they lie. -/
def Vrm (M : MH) (c : Nat) (U : UH) (v : Value) (g : Nat → Rat) : Prop := Ls Vq 4 c U M v g
def Lg (r c : Nat) (U : UH) (M : MH) (v : Value) (A : Nat → Nat → Rat) : Prop := Ls (Vrm M c) 1 r U M v A
theorem Lg.up {r c : Nat} {v : Value} {A : Nat → Nat → Rat} (h : Lg r c U M v A) (hU : ULe U U') (hM : M.Sublist M') : Lg r c U' M' v A := by
  obtain ⟨p, cc, vs, h1, h0, h2, h3⟩ := h
  exact ⟨p, cc, vs, h1, h0, h2.up hU hM, fun k x hk => Ls.up (h3 k x hk) kept_q hU hM⟩
theorem Lg.congr {r c : Nat} {v : Value} {A B : Nat → Nat → Rat} (h : Lg r c U M v A) (hz : ∀ i j, i < r → j < c → A i j = B i j) : Lg r c U M v B := by
  obtain ⟨p, cc, vs, h1, h0, h2, h3⟩ := h
  exact ⟨p, cc, vs, h1, h0, h2, fun k x hk => Ls.congr (h3 k x hk) fun j hj => hz k j (h2.lt hk) hj⟩
/-- One row of a grid: it is changed. -/
theorem Gs.put {R : MH → Option Addr → Nat → Nat → List Value → Prop} {c i : Nat} {svs : List Value} {F : List MH} {A : Nat → Nat → Rat} (h : Gs R c U svs F A) (hi : i < svs.length) :
    ∃ q c' vs D, svs[i]? = some (.slice q c c') ∧ F[i]? = some D ∧ c ≤ c' ∧ R D q c c' vs ∧ El Vq U vs (A i) ∧ i < F.length ∧
      ∀ (U' : UH) (D' : MH) (vs' : List Value) (A' : Nat → Nat → Rat), ULe U U' → R D' q c c' vs' → El Vq U' vs' (A' i) → (∀ k, k ≠ i → A' k = A k) → Gs R c U' svs (F.set i D') A' := by
  have hF : i < F.length := by rw [← h.1]; exact hi
  have h1 := List.getElem?_eq_getElem hi
  have h2 := List.getElem?_eq_getElem hF
  generalize svs[i] = x at h1
  generalize F[i] = D at h2
  obtain ⟨q, c', vs, rfl, h3, h4, h5⟩ := h.2 i x D h1 h2
  refine ⟨q, c', vs, D, h1, h2, h3, h4, h5, hF, fun U' D' vs' A' hU hR hel hA => ⟨by rw [List.length_set]; exact h.1, fun k y E hk hE => ?_⟩⟩
  by_cases e : k = i
  · subst e
    rw [List.getElem?_set_self hF] at hE
    cases hE
    rw [h1] at hk
    cases hk
    exact ⟨q, c', vs', rfl, h3, hR, hel⟩
  · rw [List.getElem?_set_ne (Ne.symm e)] at hE
    obtain ⟨q, c', vs, rfl, h3, h4, h5⟩ := h.2 k y E hk hE
    exact ⟨q, c', vs, rfl, h3, h4, by rw [hA k e]; exact h5.up kept_q hU⟩

end Go.Proofs.Ytlnmhjkagnfnaaa

/- Walks of matrix: a multiple of a row is added; a row is divided. -/
namespace Go.Proofs.Ytlnmhjkagnfnaaa
open Go.Hp
variable {G : World} {U U' : UH} {M M' : MH}

end Go.Proofs.Ytlnmhjkagnfnaaa
