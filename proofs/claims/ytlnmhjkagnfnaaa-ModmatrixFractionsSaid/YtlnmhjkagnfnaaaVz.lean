/- Rows and grids of machine integers, or of what they stand for. -/
import Derived.Test.YtlnmhjkagnfnaaaM35
import Derived.Test.YtlnmhjkagnfnaaaB97
namespace Go.Proofs.Ytlnmhjkagnfnaaa
open Go.Hp

/-- The same entries in another order. -/
theorem pq {α : Type} {a b : List α} (h : ∀ f : α → Nat, (a.map f).sum = (b.map f).sum := by intro f; simp only [List.map_append, List.map_cons, List.sum_append, List.sum_cons, List.flatten_cons, List.flatten_append, List.flatten_nil, List.map_nil, List.sum_nil, List.nil_append, List.append_nil]; omega) : a.Perm b := by
  letI : DecidableEq α := fun a b => Classical.propDecidable (a = b)
  rw [List.perm_iff_count]
  intro x
  rw [sum_count', sum_count']
  exact h _
theorem pick_pz {α : Type} {B D R T W : List α} (h : W.Perm (D ++ R)) : (B ++ (W ++ T)).Perm (D ++ (B ++ (R ++ T))) :=
  ((h.append_right T).append_left B).trans pq
theorem swap_pz {α : Type} {l : List α} {r i : Nat} (hr : r < l.length) (hi : i < l.length) : ((l.set i l[r]).set r l[i]).Perm l :=
  pq fun f => by
    have h1 := sum_set f l[r] hi
    have h2 := sum_set f l[i] (l := l.set i l[r]) (i := r) (by simpa using hr)
    have h3 : (l.set i l[r])[r]'(by simpa using hr) = l[r] := by
      rw [List.getElem_set]; split <;> rfl
    rw [h3] at h2
    omega
class KeptC {α : Type} (ok : UH → Value → α → Prop) : Prop where
  out : Kept ok
instance : KeptC Vz := ⟨kept_z⟩
abbrev TIs : Nat := 42
section
variable {G : World} {U U' U0 : UH} {M M' : MH} {α : Type} {ok : UH → Value → α → Prop}
/-- A row of n numbers, settled. -/
def Vrs (ok : UH → Value → α → Prop) (n : Nat) (U : UH) (v : Value) (g : Nat → α) : Prop := Ls ok 1 n U [] v g
instance {n : Nat} [KeptC ok] : KeptC (Vrs ok n) := ⟨fun _ _ _ _ hU h => Ls.up h KeptC.out hU (List.Sublist.refl _)⟩
theorem Vrs.ls [KeptC ok] {n : Nat} {v : Value} {g : Nat → α} (h : Vrs ok n U v g) (hU : ULe U U') : Ls ok 1 n U' M v g := Ls.up h KeptC.out hU (List.nil_sublist _)
/-- A matrix of r rows and c columns; its elements are of the sort 'ok'. -/
def Vmz (ok : UH → Value → α → Prop) (r c : Nat) (U : UH) (v : Value) (A : Nat → Nat → α) : Prop := ∃ a, v = .agg #[.int .i64 (r : Int), .int .i64 (c : Int), a] ∧ Ls ok 1 (r * c) U [] a (fl c A)
theorem Vmz.congr {r c : Nat} {v : Value} {A B : Nat → Nat → α} (h : Vmz ok r c U v A) (hz : ∀ i j, i < r → j < c → A i j = B i j) : Vmz ok r c U v B := by
  obtain ⟨a, h1, h2⟩ := h
  exact ⟨a, h1, h2.congr fun k hk => hz _ _ (fl_lt hk).1 (fl_lt hk).2⟩
/-- The same, wherever its elements lie. -/
def Vmm (ok : UH → Value → α → Prop) (r c : Nat) (U : UH) (M : MH) (v : Value) (A : Nat → Nat → α) : Prop := ∃ a, v = .agg #[.int .i64 (r : Int), .int .i64 (c : Int), a] ∧ Ls ok 1 (r * c) U M a (fl c A)
theorem Vmm.up [KeptC ok] {r c : Nat} {v : Value} {A : Nat → Nat → α} (h : Vmm ok r c U M v A) (hU : ULe U U') (hM : M.Sublist M') : Vmm ok r c U' M' v A := by
  obtain ⟨a, h1, h2⟩ := h
  exact ⟨a, h1, h2.up KeptC.out hU hM⟩
theorem Vmz.mm [KeptC ok] {r c : Nat} {v : Value} {A : Nat → Nat → α} (h : Vmz ok r c U v A) (hU : ULe U U') : Vmm ok r c U' M v A := by
  obtain ⟨a, h1, h2⟩ := h
  exact ⟨a, h1, h2.up KeptC.out hU (List.nil_sublist _)⟩
/-- The same, with elements of the call's own. -/
def Vmoz (ok : UH → Value → α → Prop) (r c : Nat) (U : UH) (D : MH) (v : Value) (A : Nat → Nat → α) : Prop := ∃ a, v = .agg #[.int .i64 (r : Int), .int .i64 (c : Int), a] ∧ Lo ok TInt 1 (r * c) U D a (fl c A)
/-- Rows, each of the call's own: F is where they lie. -/
def Gz (ok : UH → Value → α → Prop) (R : MH → Option Addr → Nat → Nat → List Value → Prop) (c : Nat) (U : UH) (svs : List Value) (F : List MH) (A : Nat → Nat → α) : Prop :=
  svs.length = F.length ∧ ∀ i v D, svs[i]? = some v → F[i]? = some D → ∃ q c' vs, v = .slice q c c' ∧ c ≤ c' ∧ R D q c c' vs ∧ El ok U vs (A i)
abbrev zO : MH → Option Addr → Nat → Nat → List Value → Prop := RowO TInt 1
abbrev zW : MH → Option Addr → Nat → Nat → List Value → Prop := fun D p n _ vs => RowW TInt 1 D p n vs
theorem Gz.up [KeptC ok] {R : MH → Option Addr → Nat → Nat → List Value → Prop} {c : Nat} {svs : List Value} {F : List MH} {A : Nat → Nat → α} (h : Gz ok R c U svs F A) (hU : ULe U U') : Gz ok R c U' svs F A :=
  ⟨h.1, fun i v D h1 h2 => by
    obtain ⟨q, c', vs, h3, h4, h5, h6⟩ := h.2 i v D h1 h2
    exact ⟨q, c', vs, h3, h4, h5, h6.up KeptC.out hU⟩⟩
theorem Gz.nil {R : MH → Option Addr → Nat → Nat → List Value → Prop} {c : Nat} {A : Nat → Nat → α} : Gz ok R c U [] [] A := ⟨rfl, fun i v D h => by simp at h⟩
theorem Gz.w {c : Nat} {svs : List Value} {F : List MH} {A : Nat → Nat → α} (h : Gz ok zO c U svs F A) : Gz ok zW c U svs F A :=
  ⟨h.1, fun i v D h1 h2 => by
    obtain ⟨q, c', vs, h3, h4, h5, h6⟩ := h.2 i v D h1 h2
    exact ⟨q, c', vs, h3, h4, h5.w, h6⟩⟩
theorem Gz.snoc {R : MH → Option Addr → Nat → Nat → List Value → Prop} {c c' n : Nat} {svs vs : List Value} {F : List MH} {D : MH} {q : Option Addr} {A : Nat → Nat → α} (h : Gz ok R c U svs F A) (hn : svs.length = n) (hc : c ≤ c') (hR : R D q c c' vs) (hel : El ok U vs (A n)) :
    Gz ok R c U (svs ++ [.slice q c c']) (F ++ [D]) A := by
  refine ⟨by rw [List.length_append, List.length_append, h.1]; rfl, fun i v E h1 h2 => ?_⟩
  rcases Nat.lt_trichotomy i svs.length with h3 | h3 | h3
  · rw [List.getElem?_append_left h3] at h1
    rw [List.getElem?_append_left (by rw [← h.1]; exact h3)] at h2
    exact h.2 i v E h1 h2
  · subst h3
    rw [List.getElem?_concat_length] at h1
    rw [h.1, List.getElem?_concat_length] at h2
    cases h1
    cases h2
    exact ⟨q, c', vs, rfl, hc, hR, by rw [hn]; exact hel⟩
  · rw [List.getElem?_eq_none (by simp; omega)] at h1; cases h1
/-- A grid of the call's own: the outer row and the rows. -/
def Goz (ok : UH → Value → α → Prop) (R : MH → Option Addr → Nat → Nat → List Value → Prop) (r c : Nat) (U : UH) (D : MH) (v : Value) (A : Nat → Nat → α) : Prop :=
  ∃ Do F p cc svs, D = Do ++ F.flatten ∧ v = .slice p r cc ∧ RowO TIs 1 Do p r cc svs ∧ Gz ok R c U svs F A
theorem Gz.sett [KeptC ok] {c : Nat} {svs : List Value} {F : List MH} {A : Nat → Nat → α} (h : Gz ok zO c U svs F A) (hU : ULe U U') (hs : Sett U0 U' F.flatten) : El (Vrs ok c) U' svs A := fun k x hk => by
  have hF : k < F.length := by rw [← h.1]; exact (List.getElem?_eq_some_iff.1 hk).1
  obtain ⟨q, c', vs, rfl, h3, h4, h5⟩ := h.2 k x _ hk (List.getElem?_eq_getElem hF)
  exact ⟨q, c', vs, rfl, h3, h4.sett (fun e he => hs e (List.mem_flatten.2 ⟨_, List.getElem_mem hF, he⟩)), h5.up KeptC.out hU⟩
theorem Goz.sett [KeptC ok] {r c : Nat} {D : MH} {v : Value} {A : Nat → Nat → α} (h : Goz ok zO r c U D v A) (hU : ULe U U') (hs : Sett U0 U' D) : Ls (Vrs ok c) 1 r U' [] v A := by
  obtain ⟨Do, F, p, cc, svs, rfl, rfl, h1, h2⟩ := h
  refine ⟨p, cc, svs, rfl, h1.len.2.1, h1.sett hs.left, fun k x hk => ?_⟩
  have hF : k < F.length := by rw [← h2.1]; exact (List.getElem?_eq_some_iff.1 hk).1
  obtain ⟨q, c', vs, rfl, h3, h4, h5⟩ := h2.2 k x _ hk (List.getElem?_eq_getElem hF)
  refine ⟨q, c', vs, rfl, h3, h4.sett (fun e he => hs e (List.mem_append_right _ (List.mem_flatten.2 ⟨_, List.getElem_mem hF, he⟩))), h5.up KeptC.out hU⟩
/-- Rows that are read wherever they lie. -/
def Vrz (ok : UH → Value → α → Prop) (M : MH) (c : Nat) (U : UH) (v : Value) (g : Nat → α) : Prop := Ls ok 1 c U M v g
def Lgz (ok : UH → Value → α → Prop) (r c : Nat) (U : UH) (M : MH) (v : Value) (A : Nat → Nat → α) : Prop := Ls (Vrz ok M c) 1 r U M v A
theorem Lgz.up [KeptC ok] {r c : Nat} {v : Value} {A : Nat → Nat → α} (h : Lgz ok r c U M v A) (hU : ULe U U') (hM : M.Sublist M') : Lgz ok r c U' M' v A := by
  obtain ⟨p, cc, vs, h1, h0, h2, h3⟩ := h
  exact ⟨p, cc, vs, h1, h0, h2.up hU hM, fun k x hk => Ls.up (h3 k x hk) KeptC.out hU hM⟩
theorem Lgz.congr {r c : Nat} {v : Value} {A B : Nat → Nat → α} (h : Lgz ok r c U M v A) (hz : ∀ i j, i < r → j < c → A i j = B i j) : Lgz ok r c U M v B := by
  obtain ⟨p, cc, vs, h1, h0, h2, h3⟩ := h
  exact ⟨p, cc, vs, h1, h0, h2, fun k x hk => Ls.congr (h3 k x hk) fun j hj => hz k j (h2.lt hk) hj⟩
theorem Gz.lg {r c cc : Nat} {p : Option Addr} {svs : List Value} {Do : MH} {F : List MH} {A : Nat → Nat → α} (ho : RowO TIs 1 Do p r cc svs) (hg : Gz ok zW c U svs F A) (hM : (Do ++ F.flatten).Sublist M) : Lgz ok r c U M (.slice p r cc) A := by
  refine ⟨p, cc, svs, rfl, ho.len.2.1, ho.at ((List.sublist_append_left ..).trans hM), fun k x hk => ?_⟩
  have hF : k < F.length := by rw [← hg.1]; exact (List.getElem?_eq_some_iff.1 hk).1
  obtain ⟨q, c', vs, rfl, h3, h4, h5⟩ := hg.2 k x _ hk (List.getElem?_eq_getElem hF)
  exact ⟨q, c', vs, rfl, h3, h4.at ((List.sublist_flatten_of_mem (List.getElem_mem hF)).trans ((List.sublist_append_right ..).trans hM)), h5⟩
theorem Goz.lg {r c : Nat} {D : MH} {v : Value} {A : Nat → Nat → α} (h : Goz ok zW r c U D v A) (hM : D.Sublist M) : Lgz ok r c U M v A := by
  obtain ⟨Do, F, p, cc, svs, rfl, rfl, h1, h2⟩ := h
  exact Gz.lg h1 h2 hM
theorem Goz.w {r c : Nat} {D : MH} {v : Value} {A : Nat → Nat → α} (h : Goz ok zO r c U D v A) : Goz ok zW r c U D v A := by
  obtain ⟨Do, F, p, cc, svs, rfl, rfl, h1, h2⟩ := h
  exact ⟨Do, F, p, cc, svs, rfl, rfl, h1, h2.w⟩
/-- One row of a grid: it is changed. -/
theorem Gz.put [KeptC ok] {R : MH → Option Addr → Nat → Nat → List Value → Prop} {c i : Nat} {svs : List Value} {F : List MH} {A : Nat → Nat → α} (h : Gz ok R c U svs F A) (hi : i < svs.length) :
    ∃ q c' vs D, svs[i]? = some (.slice q c c') ∧ F[i]? = some D ∧ c ≤ c' ∧ R D q c c' vs ∧ El ok U vs (A i) ∧ i < F.length ∧
      ∀ (U' : UH) (D' : MH) (vs' : List Value) (A' : Nat → Nat → α), ULe U U' → R D' q c c' vs' → El ok U' vs' (A' i) → (∀ k, k ≠ i → A' k = A k) → Gz ok R c U' svs (F.set i D') A' := by
  have hF : i < F.length := by rw [← h.1]; exact hi
  have h1 := List.getElem?_eq_getElem hi
  have h2 := List.getElem?_eq_getElem hF
  generalize svs[i] = x at h1
  generalize F[i] = D at h2
  obtain ⟨q, c', vs, rfl, h3, h4, h5⟩ := h.2 i x D h1 h2
  refine ⟨q, c', vs, D, h1, h2, h3, h4, h5, hF, fun U' D' vs' A' hU hR hel hA => ⟨by rw [List.length_set]; exact h.1, fun k y E hk hE => ?_⟩⟩
  by_cases e : k = i
  · subst e
    rw [List.getElem?_set_self hF] at hE
    cases hE
    rw [h1] at hk
    cases hk
    exact ⟨q, c', vs', rfl, h3, hR, hel⟩
  · rw [List.getElem?_set_ne (Ne.symm e)] at hE
    obtain ⟨q, c', vs, rfl, h3, h4, h5⟩ := h.2 k y E hk hE
    exact ⟨q, c', vs, rfl, h3, h4, by rw [hA k e]; exact h5.up KeptC.out hU⟩
theorem Gz.congr {R : MH → Option Addr → Nat → Nat → List Value → Prop} {c n : Nat} {svs : List Value} {F : List MH} {A B : Nat → Nat → α} (h : Gz ok R c U svs F A) (hl : svs.length = n) (hR : ∀ D q c' vs, R D q c c' vs → vs.length = c) (hz : ∀ i j, i < n → j < c → A i j = B i j) : Gz ok R c U svs F B :=
  ⟨h.1, fun i v D h1 h2 => by
    obtain ⟨q, c', vs, h3, h4, h5, h6⟩ := h.2 i v D h1 h2
    exact ⟨q, c', vs, h3, h4, h5, h6.congr (hR _ _ _ _ h5) fun j hj => hz i j (by rw [← hl]; exact (List.getElem?_eq_some_iff.1 h1).1) hj⟩⟩
/-- Two rows change places. -/
theorem Gz.swap {R : MH → Option Addr → Nat → Nat → List Value → Prop} {c r i : Nat} {svs : List Value} {F : List MH} {A : Nat → Nat → α} (h : Gz ok R c U svs F A) (hr : r < svs.length) (hi : i < svs.length) :
    ∃ vr vi F', svs[r]? = some vr ∧ svs[i]? = some vi ∧ F'.flatten.Perm F.flatten ∧ Gz ok R c U ((svs.set i vr).set r vi) F' (La.swap A r i) := by
  have hrF : r < F.length := by rw [← h.1]; exact hr
  have hiF : i < F.length := by rw [← h.1]; exact hi
  refine ⟨svs[r], svs[i], (F.set i F[r]).set r F[i], List.getElem?_eq_getElem hr, List.getElem?_eq_getElem hi, ?_, ?_, ?_⟩
  · exact List.Perm.flatten (swap_pz hrF hiF)
  · simp [h.1]
  · intro k v D hv hD
    have key : ∀ {a b : Nat} {v : Value} {D : MH}, svs[a]? = some v → F[a]? = some D → A a = La.swap A r i b → ∃ q c' vs, v = .slice q c c' ∧ c ≤ c' ∧ R D q c c' vs ∧ El ok U vs (La.swap A r i b) := fun h1 h2 h3 => by
      rw [← h3]; exact h.2 _ _ _ h1 h2
    by_cases e : k = r
    · subst e
      rw [List.getElem?_set_self (by simpa using hr)] at hv
      rw [List.getElem?_set_self (by simpa using hrF)] at hD
      exact key (a := i) ((List.getElem?_eq_getElem hi).trans hv) ((List.getElem?_eq_getElem hiF).trans hD) La.swap_at.1.symm
    · rw [List.getElem?_set_ne (Ne.symm e)] at hv hD
      by_cases e2 : k = i
      · subst e2
        rw [List.getElem?_set_self hi] at hv
        rw [List.getElem?_set_self hiF] at hD
        exact key (a := r) ((List.getElem?_eq_getElem hr).trans hv) ((List.getElem?_eq_getElem hrF).trans hD) La.swap_at.2.symm
      · rw [List.getElem?_set_ne (Ne.symm e2)] at hv hD
        exact key (a := k) hv hD (La.swap_ne e e2).symm
theorem Gz.tail {R : MH → Option Addr → Nat → Nat → List Value → Prop} {c : Nat} {svs : List Value} {D : MH} {F : List MH} {A : Nat → Nat → α} (h : Gz ok R c U svs (D :: F) A) : Gz ok R c U svs.tail F (fun k => A (k + 1)) := by
  refine ⟨by rw [List.length_tail, h.1]; rfl, fun i v E h1 h2 => ?_⟩
  rw [List.getElem?_tail] at h1
  exact h.2 (i + 1) v E h1 h2
theorem Lgz.take {r c k : Nat} {p : Option Addr} {cc : Nat} {A : Nat → Nat → α} (h : Lgz ok r c U M (.slice p r cc) A) (hk : k ≤ r) : Lgz ok k c U M (.slice p k cc) A := by
  obtain ⟨p1, c1, vs, h1, h0, h2, h3⟩ := h
  obtain ⟨rfl, -, rfl⟩ := Value.slice.inj h1
  exact ⟨p, cc, vs.take k, rfl, by omega, h2.take hk, fun j x hj => by
    rw [List.getElem?_take] at hj
    split at hj
    · exact h3 j x hj
    · cases hj⟩
end
end Go.Proofs.Ytlnmhjkagnfnaaa
