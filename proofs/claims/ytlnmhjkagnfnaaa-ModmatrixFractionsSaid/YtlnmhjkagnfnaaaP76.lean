/- Fractions within the limits are reconstructed from their residues: a slice that is read before the call takes at most as many bytes as a process has addresses, so what is computed stays below the greatest size of a slice. -/
import Derived.Test.YtlnmhjkagnfnaaaRows
import Derived.Test.YtlnmhjkagnfnaaaM95
import Derived.Test.YtlnmhjkagnfnaaaM150
import Derived.SizedLaws
namespace Go.Proofs.Ytlnmhjkagnfnaaa
open Go.Hp Go.ChangeShapes Go.WideShapes Go.ChangeAt Go.RowKit Go.Joins
open Go.ChangeMaps (open_string shut_string)

/-- What a claim's reach says of the digits of an integer. -/
theorem reach_iv {H : Type} {enc : TypeId × Value → H} {W : World} {fuel : Nat} {c0 : Value} {p : Option Addr} {n c : Nat} {y : DataW H × List MemPlace}
    (h : DataW.trod enc Try.prog W 0 (fun _ => true) true fuel 24 [c0, .slice p n c] = some y) (hw : ∀ k ∈ y.1.weights Try.prog 24, k ≤ reachBytes) : n ≤ 35184372087808 := by
  obtain ⟨y0, y1, m, rfl, _, h0, h1⟩ := trod_struct2 Try.underlying24 h
  have k0 : Try.prog.cellsOf 4 = 1 := by kernel_rfl
  have k1 : Try.prog.cellsOf 22 = 1 := by kernel_rfl
  have kb : Try.prog.bytesOf 53 = 4 := by kernel_rfl
  simp only [k1, List.take_succ_cons, List.take_zero, List.drop_succ_cons, List.drop_zero] at h1
  rcases Go.Deep.open_slice Try.underlying22 h1 with ⟨hcs, rfl⟩ | ⟨a, len, cap, m2, k, D, Pl, hcs, -, hl, hm, hmm, rfl, hx⟩
  · simp only [List.cons.injEq, Value.slice.injEq, and_true] at hcs
    omega
  · simp only [List.cons.injEq, Value.slice.injEq, and_true] at hcs
    obtain ⟨-, rfl, -⟩ := hcs
    have h2 := hw ((((List.range n).map D).length + ((List.range (m2 - n)).map fun j => D (n + j)).length) * 4) (by
      simp only [DataW.weights, Try.underlying24, Try.underlying22, List.map_cons, List.map_nil, DataW.weightsEach, kb, List.mem_append, List.mem_cons]
      exact .inr (.inl (.inl trivial)))
    simp only [List.length_map, List.length_range, reachBytes] at h2
    omega
theorem reach_qv {H : Type} {enc : TypeId × Value → H} {W : World} {x : QV} {d : DataW H} {p : List MemPlace} (h : DataW.Trod enc Try.prog W 0 (fun _ => true) true 26 x.v d p)
    (hw : ∀ k ∈ d.weights Try.prog 26, k ≤ reachBytes) : x.le 35184372087808 := by
  obtain ⟨fuel, hf⟩ := h
  obtain ⟨y0, y1, m, e, _, h0, h1⟩ := trod_struct2 Try.underlying26 (cs := [.bool x.num.neg, .slice x.num.p x.num.n x.num.c, .bool x.den.neg, .slice x.den.p x.den.n x.den.c]) hf
  simp only [cellsI, List.drop_zero, List.take_succ_cons, List.take_zero, List.drop_succ_cons] at h0 h1
  obtain rfl : d = .agg [y0.1, y1.1] := congrArg Prod.fst e
  simp only [DataW.weights, Try.underlying26, List.map_cons, List.map_nil, DataW.weightsEach, List.mem_append] at hw
  exact ⟨reach_iv h0 fun k hk => hw k (.inl hk), reach_iv h1 fun k hk => hw k (.inr (.inl hk))⟩

set_option maxRecDepth 100000 in
theorem modmatrixFractions_lifted (os : Os) (started : os.Started) (H : Type) (enc : TypeId × Value → H) :
    ReturnsInHanded {} Try.checked os 3 .any (Rows.modmatrixFractionsSpec.pre6 enc Try.prog Try.f3 Rows.modmatrixFractionsRow.domain false) (Rows.modmatrixFractionsSpec.post enc Try.prog Try.f3 false true false false) := by
  refine returnsInHanded_of_change_sized (C := Try.checked) Try.own started (by kernel_rfl) Try.func3
    (ChangeSpec.witness6 (enc := enc) (C := Try.checked) false ⟨#[], #[.agg #[.bool false, .slice none 0 0, .bool false, .slice none 0 0], .agg #[.bool false, .slice none 0 0], .agg #[.bool false, .slice none 0 0]], []⟩ 8 (by kernel_rfl) (by kernel_rfl) (by kernel_rfl) (by kernel_rfl)) ?_
  intro W base args ds gs before hval0 hW _ hsz0 _
  have hval : ∀ (j : Nat) t v, Try.f3.params[j]? = some t → args[j]? = some v → Value.okWide Try.prog W .any base t v := hval0
  have hsz : (DataW.weightsEach Try.prog (Try.f3.params.toList ++ Rows.modmatrixFractionsSpec.plain.varTypes Try.prog) (ds ++ gs)).all (· ≤ reachBytes) = true := hsz0
  have hW' := hW
  obtain ⟨p, q, hA0, hV, rfl, hfz, hnd⟩ := hW
  have hA : DataW.TrodAll enc Try.prog W 0 (fun _ => true) true Try.f3.params.toList args.toList ds p := hA0
  rw [Try.params3] at hA hval hsz
  obtain ⟨v0, v1, v2, d0, d1, d2, p0, p1, p2, rfl, rfl, rfl, h0, h1, h2⟩ := trodAll_three hA
  obtain ⟨rfl, rfl⟩ := trodVars_none hV
  have hlt : ∀ x ∈ (p0 ++ (p1 ++ p2)), x.block < W.heap.size := fun x hx => by simpa using hW'.lt x (List.mem_append_left _ (by simpa using hx))
  have hargs : ∀ W', Below W.heap.size W W' → DataW.TrodAll enc Try.prog W' 0 (fun b => decide (b < W.heap.size)) true [26, 24, 24] [v0, v1, v2] [d0, d1, d2] (p0 ++ (p1 ++ p2)) := fun W' hb =>
    trodAll_mk3 (Below.trod Try.laidOut (by kernel_rfl) (of_decide_eq_true (by kernel_rfl)) h0 hb fun x hx => hlt x (by simp [hx])) (Below.trod Try.laidOut (by kernel_rfl) (of_decide_eq_true (by kernel_rfl)) h1 hb fun x hx => hlt x (by simp [hx])) (Below.trod Try.laidOut (by kernel_rfl) (of_decide_eq_true (by kernel_rfl)) h2 hb fun x hx => hlt x (by simp [hx]))
  obtain ⟨x0, q0, rfl, e0⟩ := open_qv (hval 0 26 v0 rfl rfl) h0
  obtain ⟨x1, l1, rfl, e1⟩ := open_iv (hval 1 24 v1 rfl rfl) h1
  obtain ⟨x2, l2, rfl, e2⟩ := open_iv (hval 2 24 v2 rfl rfl) h2
  have hle : x0.le 35184372087808 := reach_qv h0 fun k hk => of_decide_eq_true (List.all_eq_true.1 hsz k (DataW.weights_mem_each (j := 0) rfl rfl k hk))
  refine (calls_law (ModmatrixFractionsW_ct e0 hle ⟨l1, e1, rfl⟩ ⟨l2, e2, rfl⟩)).mono fun e W' ⟨he, hb⟩ => ?_
  subst he
  exact ⟨_, rfl, post_law hW' rfl rfl rfl rfl (hargs W' hb) hb⟩

theorem modmatrixFractions_holds : Rows.ModmatrixFractionsSaid :=
  OpenClaim.holds_of_wide 3 Try.f3 rfl rfl rfl rfl rfl rfl rfl ⟨rfl, rfl, rfl, rfl, rfl⟩ rfl rfl rfl rfl rfl (by kernel_rfl) Try.func3 (by kernel_rfl)
    (of_decide_eq_true (by kernel_rfl)) (by unfold Func.isWrapper; rw [if_neg (of_decide_eq_false (by kernel_rfl))]; exact ⟨rfl, rfl⟩)
    (fun os started H enc _ => modmatrixFractions_lifted os started H enc)

#print axioms modmatrixFractions_holds
end Go.Proofs.Ytlnmhjkagnfnaaa
