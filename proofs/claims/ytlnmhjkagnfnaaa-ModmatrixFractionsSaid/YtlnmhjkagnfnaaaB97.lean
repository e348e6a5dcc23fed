/- Walks of matrix: elimination. -/
import Derived.Test.YtlnmhjkagnfnaaaM22
import Derived.Test.YtlnmhjkagnfnaaaM19
namespace Go.Proofs.Ytlnmhjkagnfnaaa
open Go.Hp
variable {G : World} {U U' : UH} {M M' : MH}

theorem pickF {α : Type} {F : List (List α)} {i : Nat} {D : List α} (h : F[i]? = some D) : F.flatten.Perm (D ++ ((F.take i).flatten ++ (F.drop (i + 1)).flatten)) := by
  obtain ⟨hi, hx⟩ := List.getElem?_eq_some_iff.1 h
  have e : F = F.take i ++ D :: F.drop (i + 1) := by
    rw [← hx, List.getElem_cons_drop, List.take_append_drop]
  have e2 : F.flatten = (F.take i).flatten ++ (D ++ (F.drop (i + 1)).flatten) := by
    conv => lhs; rw [e]
    rw [List.flatten_append, List.flatten_cons]
  rw [e2]
  exact List.perm_append_comm_assoc ..
theorem putF {α : Type} {F : List (List α)} {i : Nat} {D : List α} (hi : i < F.length) : (F.set i D).flatten.Perm (D ++ ((F.take i).flatten ++ (F.drop (i + 1)).flatten)) := by
  have h := pickF (F := F.set i D) (i := i) (D := D) (by rw [List.getElem?_set_self hi])
  rwa [List.take_set_of_le (Nat.le_refl i), List.drop_set_of_lt (Nat.lt_succ_self i)] at h

theorem sum_set {α : Type} (f : α → Nat) (a : α) : ∀ {l : List α} {i : Nat} (h : i < l.length), ((l.set i a).map f).sum + f l[i] = (l.map f).sum + f a
  | x :: l, 0, _ => by simp; omega
  | x :: l, i + 1, h => by
    have := sum_set f a (l := l) (i := i) (by simpa using h)
    simp only [List.set_cons_succ, List.map_cons, List.sum_cons, List.getElem_cons_succ]
    omega
theorem Gs.congr {R : MH → Option Addr → Nat → Nat → List Value → Prop} {c n : Nat} {svs : List Value} {F : List MH} {A B : Nat → Nat → Rat} (h : Gs R c U svs F A) (hl : svs.length = n) (hR : ∀ D q c' vs, R D q c c' vs → vs.length = c) (hz : ∀ i j, i < n → j < c → A i j = B i j) : Gs R c U svs F B :=
  ⟨h.1, fun i v D h1 h2 => by
    obtain ⟨q, c', vs, h3, h4, h5, h6⟩ := h.2 i v D h1 h2
    exact ⟨q, c', vs, h3, h4, h5, h6.congr (hR _ _ _ _ h5) fun j hj => hz i j (by rw [← hl]; exact (List.getElem?_eq_some_iff.1 h1).1) hj⟩⟩
/-- Two rows lie apart. -/
theorem rest_mem {α : Type} {F : List (List α)} {i j : Nat} {D : List α} (h : F[i]? = some D) (hne : i ≠ j) : D.Sublist ((F.take j).flatten ++ (F.drop (j + 1)).flatten) := by
  rcases Nat.lt_or_gt_of_ne hne with h1 | h1
  · refine (List.sublist_flatten_of_mem ?_).trans (List.sublist_append_left ..)
    exact List.mem_of_getElem? (i := i) (by rw [List.getElem?_take, if_pos h1]; exact h)
  · refine (List.sublist_flatten_of_mem ?_).trans (List.sublist_append_right ..)
    exact List.mem_of_getElem? (i := i - (j + 1)) (by rw [List.getElem?_drop, show j + 1 + (i - (j + 1)) = i by omega]; exact h)

end Go.Proofs.Ytlnmhjkagnfnaaa
