/- Texts of this seat's own, merged: each begins with its own remark. -/
import Derived.Test.YtlnmhjkagnfnaaaM2
import Derived.ProofKit
import Derived.Lib.SmallJoins
import Derived.Carry
import Derived.Test.YtlnmhjkagnfnaaaM18
import Derived.Test.YtlnmhjkagnfnaaaM35
import Derived.Deep.Slices
import Derived.Deep.Strs
import Derived.Test.YtlnmhjkagnfnaaaVz
/- From a law's contract to its row: integers as arguments; what holds behind the call. -/
namespace Go.Proofs.Ytlnmhjkagnfnaaa
open Go.Hp Go.ChangeShapes Go.WideShapes Go.ChangeAt Go.RowKit Go.Joins

theorem Try.own : ownKnob Try.prog.godebug = none := by kernel_rfl
theorem Try.laidOut : laidOutB Try.prog = true := by kernel_rfl
theorem cellsI : Try.prog.cellsOf 24 = 2 := by kernel_rfl
theorem cellsU : Try.prog.cellsOf 53 = 1 := by kernel_rfl

/-- All memory that there is when a law is called. -/
def UW (W : World) : UH := fun k => W.heap[k]?

theorem mem_start (W : World) : Mem W (UW W) [] W := ⟨rfl, rfl, rfl, fun _ _ h => h, fun _ h => (by cases h), List.Pairwise.nil⟩

theorem uw_cell {W : World} {a : Addr} {v : Value} (h : W.cell? a = some v) : (UW W).cell? a = some v := by
  unfold UH.cell? UW
  unfold World.cell? at h
  split at h <;> simp_all

theorem below_of_mem {W W' : World} {U' : UH} {M : MH} (hU : ULe (UW W) U') (h : Mem W U' M W') : Below W.heap.size W W' := by
  have hb : ∀ k, k < W.heap.size → W'.heap[k]? = W.heap[k]? := fun k hk => by
    have h1 := Array.getElem?_eq_getElem hk
    rw [h1]
    exact h.old _ _ (hU _ _ h1)
  refine ⟨h.os, h.tape, h.output, ?_, hb⟩
  rcases Nat.lt_or_ge W'.heap.size W.heap.size with hlt | hge
  · have h1 := hb _ hlt
    rw [Array.getElem?_eq_getElem hlt] at h1
    simp at h1
  · exact hge

/-- A law's contract, as the row asks it. -/
theorem calls_law {W : World} {f : Nat} {args : List Value} (h : Ct Try.prog f args W (UW W) [] fun v _ _ => v = .bool true) :
    Calls Try.prog f args.toArray W fun e W' => e = .returned (.bool true) ∧ Below W.heap.size W W' :=
  (h.calls W (mem_start W)).mono fun _ _ ⟨_, _, _, h1, h2, h3, h4⟩ => ⟨by rw [h1, h4], below_of_mem h2 h3⟩

section
variable {H : Type} {enc : TypeId × Value → H}

/-- The cells of an integer. -/
theorem open_ivc {W : World} {fuel : Nat} {c0 c1 : Value} {y : DataW H × List MemPlace} (h : DataW.trod enc Try.prog W 0 (fun _ => true) true fuel 24 [c0, c1] = some y) :
    ∃ (x : IV) (l : List Nat), c0 = .bool x.neg ∧ c1 = .slice x.p x.n x.c ∧ Dig (UW W) [] x.p x.n x.c l := by
  obtain ⟨y0, y1, m, _, _, h0, h1⟩ := trod_struct2 Try.underlying24 h
  have k0 : Try.prog.cellsOf 4 = 1 := by kernel_rfl
  have k1 : Try.prog.cellsOf 22 = 1 := by kernel_rfl
  simp only [k0, k1, List.drop_zero, List.take_succ_cons, List.take_zero, List.drop_succ_cons] at h0 h1
  obtain ⟨neg, e0⟩ : ∃ b, [c0] = [Value.bool b] := by
    obtain ⟨b, h, _⟩ := DataW.trod_bool Try.underlying4 h0
    exact ⟨b, h⟩
  rcases open_ints Try.underlying22 Try.underlying53 cellsU h1 with ⟨hcs, hx⟩ | ⟨a, len, cap, zs, hcs, _, hl, hm, hz, hx, hcell, hwz⟩
  · simp only [List.cons.injEq, and_true] at e0 hcs
    subst e0 hcs
    exact ⟨⟨neg, none, 0, 0⟩, [], rfl, rfl, Dig.nil⟩
  · simp only [List.cons.injEq, and_true] at e0 hcs
    subst e0 hcs
    simp only [if_true] at hz
    have hwf : ∀ z ∈ zs, 0 ≤ z ∧ z ≤ 4294967295 := fun z hz => by
      have := hwz z hz
      simp [Lit.wf, IntKind.min, IntKind.max, IntKind.signed, IntKind.bits] at this
      omega
    refine ⟨⟨neg, some a, len, cap⟩, (zs.take len).map Int.toNat, rfl, rfl, ?_, hl, ?_, ?_, ?_⟩
    · show _ = len
      rw [List.length_map, List.length_take]; omega
    · simp only [maxLen] at hm; omega
    · intro d hd
      obtain ⟨z, hz1, rfl⟩ := List.mem_map.1 hd
      have := hwf z (List.mem_of_mem_take hz1)
      omega
    · intro k d hk
      refine ⟨rfl, fun G w hw => ?_⟩
      rw [List.getElem?_map] at hk
      obtain ⟨z, hz1, hz2⟩ : ∃ z, (zs.take len)[k]? = some z ∧ z.toNat = d := by
        cases hh : (zs.take len)[k]? with
        | none => rw [hh] at hk; cases hk
        | some z => rw [hh] at hk; exact ⟨z, rfl, by simpa using hk⟩
      rw [List.getElem?_take] at hz1
      split at hz1
      · have hkl := (List.getElem?_eq_some_iff.1 hz1).1
        have hc := hcell k hkl
        have hr := hwf z (List.mem_of_getElem? hz1)
        have e : zs.getD k 0 = z := by simp [List.getD, hz1]
        rw [e] at hc
        have e2 : z = (d : Int) := by omega
        rw [e2] at hc
        simp only [elt, Option.getD_some]
        exact hw.cellU (uw_cell hc)
      · cases hz1

set_option maxRecDepth 100000 in
/-- An integer among the arguments. -/
theorem open_iv {W : World} {r : Reach} {b0 : Nat} {v : Value} {d : DataW H} {p : List MemPlace} (hv : Value.okWide Try.prog W r b0 24 v)
    (h : DataW.Trod enc Try.prog W 0 (fun _ => true) true 24 v d p) : ∃ (x : IV) (l : List Nat), v = x.v ∧ Dig (UW W) [] x.p x.n x.c l := by
  obtain ⟨cs, rfl, hsz⟩ := okWide_struct Try.underlying24 hv
  obtain ⟨c0, c1, rfl⟩ := array2 (hsz.trans cellsI)
  obtain ⟨fuel, hf⟩ := h
  obtain ⟨x, l, rfl, rfl, hd⟩ := open_ivc hf
  exact ⟨x, l, rfl, hd⟩

/-- What a law's row asks behind the call. -/
theorem post_law {f : Func} {s : ChangeSpec} {apart fresh handsOn : Bool} {W W' : World} {args : Array Value} {ds gs : List (DataW H)} {before pa : List MemPlace}
    (hW : DataW.Whole enc Try.prog f.params.toList s.vars apart W args.toList ds gs before) (hr : f.resultTypes = #[4]) (hres : (s.fn H (ds ++ gs)).results = [.lit (.bool true)]) (hv : s.vars = []) (hvr : (s.fn H (ds ++ gs)).vars = [])
    (hargs : DataW.TrodAll enc Try.prog W' 0 (fun b => decide (b < W.heap.size)) true f.params.toList args.toList (s.fn H (ds ++ gs)).args pa) (hb : Below W.heap.size W W') :
    s.post enc Try.prog f apart fresh handsOn false W args (.bool true) W' := by
  refine ⟨ds, gs, before, [], pa, [], hW, ?_, hargs, ?_, hb.frame _, fun h => by cases h⟩
  · rw [hres, hr]
    exact trodAll_mk1 (shut_bool Try.underlying4 true)
  · rw [hv, hvr]; rfl

end
end Go.Proofs.Ytlnmhjkagnfnaaa

/- From a law's contract to its row: fractions and intervals as arguments. -/
namespace Go.Proofs.Ytlnmhjkagnfnaaa
open Go.Hp Go.ChangeShapes Go.WideShapes Go.ChangeAt Go.RowKit Go.Joins

theorem arr4 (T : Array Value) (h : T.size = 4) : ∃ a b c d : Value, T = #[a, b, c, d] := by
  obtain ⟨l⟩ := T
  match l, h with
  | [a, b, c, d], _ => exact ⟨a, b, c, d, rfl⟩
theorem cellsQ : Try.prog.cellsOf 26 = 4 := by kernel_rfl
section
variable {H : Type} {enc : TypeId × Value → H}

/-- The cells of a fraction. -/
theorem open_qvc {W : World} {fuel : Nat} {c0 c1 c2 c3 : Value} {y : DataW H × List MemPlace} (h : DataW.trod enc Try.prog W 0 (fun _ => true) true fuel 26 [c0, c1, c2, c3] = some y) :
    ∃ (x : QV) (q : Rat), c0 = .bool x.num.neg ∧ c1 = .slice x.num.p x.num.n x.num.c ∧ c2 = .bool x.den.neg ∧ c3 = .slice x.den.p x.den.n x.den.c ∧ x.rep (UW W) [] q := by
  obtain ⟨y0, y1, m, _, _, h0, h1⟩ := trod_struct2 Try.underlying26 h
  simp only [cellsI, List.drop_zero, List.take_succ_cons, List.take_zero, List.drop_succ_cons] at h0 h1
  obtain ⟨x, l, rfl, rfl, hd⟩ := open_ivc h0
  obtain ⟨z, k, rfl, rfl, he⟩ := open_ivc h1
  exact ⟨⟨x, z⟩, _, rfl, rfl, rfl, rfl, _, _, ⟨l, hd, rfl⟩, ⟨k, he, rfl⟩, rfl⟩

set_option maxRecDepth 100000 in
/-- A fraction among the arguments. -/
theorem open_qv {W : World} {r : Reach} {b0 : Nat} {v : Value} {d : DataW H} {p : List MemPlace} (hv : Value.okWide Try.prog W r b0 26 v)
    (h : DataW.Trod enc Try.prog W 0 (fun _ => true) true 26 v d p) : ∃ (x : QV) (q : Rat), v = x.v ∧ x.rep (UW W) [] q := by
  obtain ⟨cs, rfl, hsz⟩ := okWide_struct Try.underlying26 hv
  obtain ⟨c0, c1, c2, c3, rfl⟩ := arr4 _ (hsz.trans cellsQ)
  obtain ⟨fuel, hf⟩ := h
  obtain ⟨x, q, rfl, rfl, rfl, rfl, hx⟩ := open_qvc hf
  exact ⟨x, q, rfl, hx⟩

end
end Go.Proofs.Ytlnmhjkagnfnaaa

/- From a law's contract to its row: matrices and rows of fractions as arguments. -/
namespace Go.Proofs.Ytlnmhjkagnfnaaa
open Go.Hp Go.ChangeShapes Go.WideShapes Go.ChangeAt Go.RowKit Go.Joins

section
variable {H : Type} {enc : TypeId × Value → H}

end
end Go.Proofs.Ytlnmhjkagnfnaaa

/- From a law's contract to its row: machine integers, lists of integers, matrices of both as arguments. -/
namespace Go.Proofs.Ytlnmhjkagnfnaaa
open Go.Hp Go.ChangeShapes Go.WideShapes Go.ChangeAt Go.RowKit Go.Joins

/-- An integer of any form. -/
def Xz (U : UH) (v : Value) (z : Int) : Prop := ∃ x : IV, v = x.v ∧ x.rep U [] z
theorem kept_xz : Kept Xz := fun _ _ _ _ hU ⟨x, h1, h2⟩ => ⟨x, h1, h2.up hU (List.Sublist.refl _)⟩
instance : KeptC Xz := ⟨kept_xz⟩
/-- A matrix as it may come: the elements of the sort 'ok', of size s. -/
structure RawO {α : Type} (ok : UH → Value → α → Prop) (s : Nat) (U : UH) (v : Value) (r c : Int) (n : Nat) (f : Nat → α) : Prop where
  rows : -9223372036854775808 ≤ r ∧ r ≤ 9223372036854775807
  cols : -9223372036854775808 ≤ c ∧ c ≤ 9223372036854775807
  num : n ≤ 9223372036854775807
  elt : ∃ a, v = .agg #[.int .i64 r, .int .i64 c, a] ∧ Ls ok s n U [] a f
theorem RawO.up {U U' : UH} {α : Type} {ok : UH → Value → α → Prop} [KeptC ok] {s : Nat} {v : Value} {r c : Int} {n : Nat} {f : Nat → α} (h : RawO ok s U v r c n f) (hU : ULe U U') : RawO ok s U' v r c n f := by
  obtain ⟨a, h1, h2⟩ := h.elt
  exact ⟨h.rows, h.cols, h.num, a, h1, h2.up KeptC.out hU (List.Sublist.refl _)⟩

section
variable {H : Type} {enc : TypeId × Value → H}

end
end Go.Proofs.Ytlnmhjkagnfnaaa
