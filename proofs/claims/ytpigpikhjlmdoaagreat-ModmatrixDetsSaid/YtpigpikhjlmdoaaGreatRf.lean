/- From a law's contract to its row: machine integers, lists of integers, matrices of both as arguments. -/
import Derived.Test.YtpigpikhjlmdoaaGreatRm
import Derived.Test.YtpigpikhjlmdoaaGreatVz
namespace Go.Proofs.YtpigpikhjlmdoaaGreat
open Go.Hp Go.ChangeShapes Go.WideShapes Go.ChangeAt Go.RowKit Go.Joins

/-- An integer of any form. -/
def Xz (U : UH) (v : Value) (z : Int) : Prop := ∃ x : IV, v = x.v ∧ x.rep U [] z
theorem kept_xz : Kept Xz := fun _ _ _ _ hU ⟨x, h1, h2⟩ => ⟨x, h1, h2.up hU (List.Sublist.refl _)⟩
instance : KeptC Xz := ⟨kept_xz⟩
/-- A matrix as it may come: the elements of the sort 'ok', of size s. -/
structure RawO {α : Type} (ok : UH → Value → α → Prop) (s : Nat) (U : UH) (v : Value) (r c : Int) (n : Nat) (f : Nat → α) : Prop where
  rows : -9223372036854775808 ≤ r ∧ r ≤ 9223372036854775807
  cols : -9223372036854775808 ≤ c ∧ c ≤ 9223372036854775807
  num : n ≤ 9223372036854775807
  elt : ∃ a, v = .agg #[.int .i64 r, .int .i64 c, a] ∧ Ls ok s n U [] a f
theorem RawO.up {U U' : UH} {α : Type} {ok : UH → Value → α → Prop} [KeptC ok] {s : Nat} {v : Value} {r c : Int} {n : Nat} {f : Nat → α} (h : RawO ok s U v r c n f) (hU : ULe U U') : RawO ok s U' v r c n f := by
  obtain ⟨a, h1, h2⟩ := h.elt
  exact ⟨h.rows, h.cols, h.num, a, h1, h2.up KeptC.out hU (List.Sublist.refl _)⟩

section
variable {H : Type} {enc : TypeId × Value → H}

/-- A list of integers. -/
theorem open_is {W : World} {fuel : Nat} {c0 : Value} {y : DataW H × List MemPlace} (h : DataW.trod enc Tryz.prog W 0 (fun _ => true) true fuel 61 [c0] = some y) :
    ∃ (p : Option Addr) (n c : Nat) (vs : List Value) (f : Nat → Int), c0 = .slice p n c ∧ n ≤ c ∧ c ≤ 9223372036854775807 ∧ RowAt (UW W) [] 2 p n vs ∧ El Xz (UW W) vs f := by
  rcases Go.Deep.open_slice Tryz.underlying61 h with ⟨hcs, -⟩ | ⟨a, len, cap, m, k, D, Pl, hcs, -, hl, hm, hmm, -, hx⟩
  · simp only [List.cons.injEq, and_true] at hcs
    subst hcs
    exact ⟨none, 0, 0, [], fun _ => 0, rfl, Nat.le_refl 0, by omega, RowAt.nil, El.nil⟩
  · simp only [List.cons.injEq, and_true] at hcs
    subst hcs
    simp only [if_true] at hmm
    subst hmm
    have each : ∀ i, i < len → ∃ q : IV × Int, q.1.rep (UW W) [] q.2 ∧ ∀ j x, q.1.v.cells.toList[j]? = some x → W.cell? (a.add (i * 2 + j)) = some x := by
      intro i hi
      obtain ⟨cs', h1, h2⟩ := hx i (by omega)
      rw [cellsI] at h1
      obtain ⟨-, hlen, hcell⟩ := World.cells?_some h1
      match cs', hlen with
      | [c0, c1], _ =>
        obtain ⟨x, l, rfl, rfl, hd⟩ := open_ivc h2
        refine ⟨(x, sg x.neg (val l)), ⟨l, hd, rfl⟩, fun j u hu => ?_⟩
        have hj : j < 2 := (List.getElem?_eq_some_iff.1 hu).1
        rw [← add_add, hcell j hj]
        exact hu
    have inh : Inhabited (IV × Int) := ⟨(zeroIV0, 0)⟩
    obtain ⟨q, hq⟩ := Go.Deep.choose_lt each
    refine ⟨some a, len, m, (List.range len).map fun i => (q i).1.v, fun i => (q i).2, rfl, hl, by simpa [maxLen] using hm, ⟨by simp, fun v hv => ?_, fun i v hi => ?_⟩, fun i v hi => ?_⟩
    · obtain ⟨i, -, rfl⟩ := List.mem_map.1 hv; rfl
    · rw [List.getElem?_map] at hi
      obtain ⟨i', hi1, rfl⟩ := Option.map_eq_some_iff.1 hi
      obtain ⟨hlt, hie⟩ := List.getElem?_eq_some_iff.1 hi1
      simp only [List.length_range] at hlt
      simp only [List.getElem_range] at hie
      subst hie
      exact ⟨rfl, fun j x hx' G w hw => hw.cellU (uw_cell ((hq i hlt).2 j x hx'))⟩
    · rw [List.getElem?_map] at hi
      obtain ⟨i', hi1, rfl⟩ := Option.map_eq_some_iff.1 hi
      obtain ⟨hlt, hie⟩ := List.getElem?_eq_some_iff.1 hi1
      simp only [List.length_range] at hlt
      simp only [List.getElem_range] at hie
      subst hie
      exact ⟨_, rfl, (hq i hlt).1⟩

set_option maxRecDepth 100000 in
theorem open_zm {W : World} {r : Reach} {b0 : Nat} {v : Value} {d : DataW H} {p : List MemPlace} (hv : Value.okWide Tryz.prog W r b0 63 v)
    (h : DataW.Trod enc Tryz.prog W 0 (fun _ => true) true 63 v d p) : ∃ (r c : Int) (n : Nat) (f : Nat → Int), RawO Xz 2 (UW W) v r c n f := by
  have kS : Tryz.prog.cellsOf 63 = 3 := by kernel_rfl
  obtain ⟨cs, rfl, hsz⟩ := okWide_struct Tryz.underlying63 hv
  obtain ⟨c0, c1, c2, rfl⟩ := arr3 _ (hsz.trans kS)
  obtain ⟨fuel, hf⟩ := h
  have hf : DataW.trod enc Tryz.prog W 0 (fun _ => true) true fuel 63 [c0, c1, c2] = some (d, p) := hf
  obtain ⟨y0, y1, y2, m, _, _, h0, h1, h2⟩ := Go.Deep.trod_struct3 Tryz.underlying63 hf
  have k0 : Tryz.prog.cellsOf 3 = 1 := by kernel_rfl
  have k1 : Tryz.prog.cellsOf 61 = 1 := by kernel_rfl
  simp only [k0, k1, List.drop_zero, List.take_succ_cons, List.take_zero, List.drop_succ_cons] at h0 h1 h2
  obtain ⟨r, e0, -, w0⟩ := DataW.trod_int Tryz.underlying3 h0
  obtain ⟨c, e1, -, w1⟩ := DataW.trod_int Tryz.underlying3 h1
  obtain ⟨p, n, cc, vs, f, rfl, hn, hc, hr, he⟩ := open_is h2
  simp only [List.cons.injEq, and_true] at e0 e1
  subst e0 e1
  exact ⟨r, c, n, f, int_range w0, int_range w1, by omega, _, rfl, p, cc, vs, rfl, hn, hr, he⟩
end
end Go.Proofs.YtpigpikhjlmdoaaGreat
