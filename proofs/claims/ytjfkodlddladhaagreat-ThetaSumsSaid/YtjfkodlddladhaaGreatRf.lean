/- From a law's contract to its row: machine integers, lists of integers, matrices of both as arguments. -/
import Derived.Test.YtjfkodlddladhaaGreatR
import Derived.Test.YtjfkodlddladhaaGreatM18
import Derived.Test.YtjfkodlddladhaaGreatM35
import Derived.Deep.Slices
import Derived.Deep.Strs
import Derived.Test.YtjfkodlddladhaaGreatVz
namespace Go.Proofs.YtjfkodlddladhaaGreat
open Go.Hp Go.ChangeShapes Go.WideShapes Go.ChangeAt Go.RowKit Go.Joins
def Xz (U : UH) (v : Value) (z : Int) : Prop := ∃ x : IV, v = x.v ∧ x.rep U [] z
theorem Qgg : Kept Xz := fun _ _ _ _ hU ⟨x, h1, h2⟩ => ⟨x, h1, h2.up hU (List.Sublist.refl _)⟩
instance : KeptC Xz := ⟨Qgg⟩
structure RawO {α : Type} (ok : UH → Value → α → Prop) (s : Nat) (U : UH) (v : Value) (r c : Int) (n : Nat) (f : Nat → α) : Prop where
 rows : -9223372036854775808 ≤ r ∧ r ≤ 9223372036854775807
 cols : -9223372036854775808 ≤ c ∧ c ≤ 9223372036854775807
 num : n ≤ 9223372036854775807
 elt : ∃ a, v = .agg #[.int .i64 r, .int .i64 c, a] ∧ Ls ok s n U [] a f
theorem RawO.up {U U' : UH} {α : Type} {ok : UH → Value → α → Prop} [KeptC ok] {s : Nat} {v : Value} {r c : Int} {n : Nat} {f : Nat → α} (h : RawO ok s U v r c n f) (hU : ULe U U') : RawO ok s U' v r c n f := by
 obtain ⟨a, h1, h2⟩ := h.elt
 exact ⟨h.rows, h.cols, h.num, a, h1, h2.up KeptC.out hU (List.Sublist.refl _)⟩
section
variable {H : Type} {enc : TypeId × Value → H}
theorem QfS {W : World} {fuel : Nat} {c0 : Value} {y : DataW H × List MemPlace} (h : DataW.trod enc Tryz.prog W 0 (fun _ => true) true fuel 22 [c0] = some y) :
  ∃ (p : Option Addr) (n c : Nat) (vs : List Value) (f : Nat → Int), c0 = .slice p n c ∧ n ≤ c ∧ c ≤ 9223372036854775807 ∧ RowAt (UW W) [] 1 p n vs ∧ El Vz (UW W) vs f := by
 rcases Go.Deep.open_slice Tryz.underlying22 h with ⟨hcs, -⟩ | ⟨a, len, cap, m, k, D, Pl, hcs, -, hl, hm, hmm, -, hx⟩
 ·simp only [List.cons.injEq, and_true] at hcs
  subst hcs
  exact ⟨none, 0, 0, [], fun _ => 0, rfl, Nat.le_refl 0, by omega, RowAt.nil, El.nil⟩
 ·simp only [List.cons.injEq, and_true] at hcs
  subst hcs
  simp only [if_true] at hmm
  subst hmm
  have k1 : Tryz.prog.cellsOf 3 = 1 := by kernel_rfl
  have each : ∀ i, i < len → ∃ z : Int, (-9223372036854775808 ≤ z ∧ z ≤ 9223372036854775807) ∧ W.cell? (a.add (i * 1)) = some (.int .i64 z) := by
   intro i hi
   obtain ⟨cs', h1, h2⟩ := hx i (by omega)
   rw [k1] at h1
   obtain ⟨-, -, hcell⟩ := World.cells?_some h1
   obtain ⟨z, rfl, -, wz⟩ := DataW.trod_int Tryz.underlying3 h2
   have h7 := hcell 0 (by decide)
   exact ⟨z, yV wz, by simpa [vU] using h7⟩
  have inh : Inhabited Int := ⟨0⟩
  obtain ⟨q, hq⟩ := Go.Deep.choose_lt each
  refine ⟨some a, len, m, (List.range len).map fun i => .int .i64 (q i), q, rfl, hl, by simpa [maxLen] using hm, ⟨by simp, fun v hv => ?_, fun i v hi => ?_⟩, fun i v hi => ?_⟩
  ·obtain ⟨i, -, rfl⟩ := List.mem_map.1 hv; rfl
  ·rw [List.getElem?_map] at hi
   obtain ⟨i', hi1, rfl⟩ := Option.map_eq_some_iff.1 hi
   obtain ⟨hlt, hie⟩ := List.getElem?_eq_some_iff.1 hi1
   simp only [List.length_range] at hlt
   simp only [List.getElem_range] at hie
   subst hie
   refine ⟨rfl, fun j x hx' G w hw => ?_⟩
   cases j with
   | zero => cases hx'; exact hw.cellU (Qfz (hq i hlt).2)
   | succ j => simp [Value.cells] at hx'
  ·rw [List.getElem?_map] at hi
   obtain ⟨i', hi1, rfl⟩ := Option.map_eq_some_iff.1 hi
   obtain ⟨hlt, hie⟩ := List.getElem?_eq_some_iff.1 hi1
   simp only [List.length_range] at hlt
   simp only [List.getElem_range] at hie
   subst hie
   exact ⟨rfl, (hq i hlt).1⟩
end
end Go.Proofs.YtjfkodlddladhaaGreat
