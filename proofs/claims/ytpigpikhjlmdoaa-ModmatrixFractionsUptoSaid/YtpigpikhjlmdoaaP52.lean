/- Fractions within the limits are reconstructed from their residues, where what is read is of bulk at most 1048576. -/
import Derived.Test.YtpigpikhjlmdoaaRows
import Derived.Test.YtpigpikhjlmdoaaRq
import Derived.Test.YtpigpikhjlmdoaaB173
import Derived.JoinedCond
namespace Go.Proofs.Ytpigpikhjlmdoaa
open Go.Hp Go.ChangeShapes Go.WideShapes Go.ChangeAt Go.RowKit Go.Joins
open Go.ChangeMaps (open_string shut_string)

/-- What the bulk of a fraction bounds. -/
theorem bulk_one {H : Type} (d : DataW H) : 1 ≤ Rows.uptoBulk d := by
  cases d with
  | lit l => cases l <;> simp [Rows.uptoBulk]
  | nil => simp [Rows.uptoBulk]
  | ptr d => simp [Rows.uptoBulk]
  | slice elems spare => simp [Rows.uptoBulk]
  | agg parts => simp [Rows.uptoBulk]
  | iface t d => simp [Rows.uptoBulk]
  | map entries => simp [Rows.uptoBulk]
  | held h => simp [Rows.uptoBulk]
theorem bulk_len {H : Type} (l : List (DataW H)) : l.length ≤ Rows.uptoBulkAll l := by
  induction l with
  | nil => simp [Rows.uptoBulkAll]
  | cons x r ih => have := bulk_one x; simp only [Rows.uptoBulkAll, List.length_cons]; omega
theorem bulk_iv {H : Type} {enc : TypeId × Value → H} {W : World} {fuel : Nat} {c0 : Value} {p : Option Addr} {n c : Nat} {y : DataW H × List MemPlace}
    (h : DataW.trod enc Try.prog W 0 (fun _ => true) true fuel 24 [c0, .slice p n c] = some y) : n ≤ Rows.uptoBulk y.1 := by
  obtain ⟨y0, y1, m, rfl, _, h0, h1⟩ := trod_struct2 Try.underlying24 h
  have k0 : Try.prog.cellsOf 4 = 1 := by kernel_rfl
  have k1 : Try.prog.cellsOf 22 = 1 := by kernel_rfl
  simp only [k1, List.take_succ_cons, List.take_zero, List.drop_succ_cons, List.drop_zero] at h1
  rcases Go.Deep.open_slice Try.underlying22 h1 with ⟨hcs, rfl⟩ | ⟨a, len, cap, m2, k, D, Pl, hcs, -, hl, hm, hmm, rfl, hx⟩
  · simp only [List.cons.injEq, Value.slice.injEq, and_true] at hcs
    omega
  · simp only [List.cons.injEq, Value.slice.injEq, and_true] at hcs
    obtain ⟨-, rfl, -⟩ := hcs
    have h2 := bulk_len ((List.range n).map D)
    rw [List.length_map, List.length_range] at h2
    simp only [Rows.uptoBulk, Rows.uptoBulkAll]
    omega
theorem bulk_qv {H : Type} {enc : TypeId × Value → H} {W : World} {x : QV} {d : DataW H} {p : List MemPlace} (h : DataW.Trod enc Try.prog W 0 (fun _ => true) true 27 x.v d p) : x.le (Rows.uptoBulk d) := by
  obtain ⟨fuel, hf⟩ := h
  obtain ⟨y0, y1, m, e, _, h0, h1⟩ := trod_struct2 Try.underlying27 (cs := [.bool x.num.neg, .slice x.num.p x.num.n x.num.c, .bool x.den.neg, .slice x.den.p x.den.n x.den.c]) hf
  simp only [cellsI, List.drop_zero, List.take_succ_cons, List.take_zero, List.drop_succ_cons] at h0 h1
  have a0 := bulk_iv h0
  have a1 := bulk_iv h1
  obtain rfl : d = .agg [y0.1, y1.1] := congrArg Prod.fst e
  refine ⟨?_, ?_⟩ <;> simp only [Rows.uptoBulk, Rows.uptoBulkAll] <;> omega

set_option maxRecDepth 100000 in
theorem modmatrixFractions_lifted (os : Os) (started : os.Started) (H : Type) (enc : TypeId × Value → H) (S : Stop.Interp) :
    ReturnsInHanded {} Try.checked os 5 .any ((Rows.OpenSpec.upto Rows.modmatrixFractionsSpec).pre6 enc Try.prog Try.f5 Rows.modmatrixFractionsUptoRow.domain false) (((Rows.OpenSpec.upto Rows.modmatrixFractionsSpec).at S).post enc Try.prog Try.f5 false true false false) := by
  refine returnsInHanded_of_cond (C := Try.checked) (s := Rows.OpenSpec.upto Rows.modmatrixFractionsSpec) (k := Rows.uptoSmall) rfl Try.own started (by kernel_rfl) Try.func5
    (OpenSpec.witness (enc := enc) (C := Try.checked) (s := Rows.OpenSpec.upto Rows.modmatrixFractionsSpec) (k := Rows.uptoSmall) rfl false ⟨#[], #[.agg #[.bool false, .slice none 0 0, .bool false, .slice none 0 0], .agg #[.bool false, .slice none 0 0], .agg #[.bool false, .slice none 0 0]], []⟩ 8 (by kernel_rfl) (by kernel_rfl) (by kernel_rfl)
      (x := ([.agg [.agg [.lit (.bool false), .nil], .agg [.lit (.bool false), .nil]], .agg [.lit (.bool false), .nil], .agg [.lit (.bool false), .nil]], [], [])) (by kernel_rfl) rfl (by kernel_rfl)) ?_
  intro W base args ds gs before hval0 hW _ hbulk _
  have hval : ∀ (j : Nat) t v, Try.f5.params[j]? = some t → args[j]? = some v → Value.okWide Try.prog W .any base t v := hval0
  have hW' := hW
  obtain ⟨p, q, hA0, hV, rfl, hfz, hnd⟩ := hW
  have hA : DataW.TrodAll enc Try.prog W 0 (fun _ => true) true Try.f5.params.toList args.toList ds p := hA0
  rw [Try.params5] at hA hval
  obtain ⟨v0, v1, v2, d0, d1, d2, p0, p1, p2, rfl, rfl, rfl, h0, h1, h2⟩ := trodAll_three hA
  obtain ⟨rfl, rfl⟩ := trodVars_none hV
  have hlt : ∀ x ∈ (p0 ++ (p1 ++ p2)), x.block < W.heap.size := fun x hx => by simpa using hW'.lt x (List.mem_append_left _ (by simpa using hx))
  have hargs : ∀ W', Below W.heap.size W W' → DataW.TrodAll enc Try.prog W' 0 (fun b => decide (b < W.heap.size)) true [27, 24, 24] [v0, v1, v2] [d0, d1, d2] (p0 ++ (p1 ++ p2)) := fun W' hb =>
    trodAll_mk3 (Below.trod Try.laidOut (by kernel_rfl) (of_decide_eq_true (by kernel_rfl)) h0 hb fun x hx => hlt x (by simp [hx])) (Below.trod Try.laidOut (by kernel_rfl) (of_decide_eq_true (by kernel_rfl)) h1 hb fun x hx => hlt x (by simp [hx])) (Below.trod Try.laidOut (by kernel_rfl) (of_decide_eq_true (by kernel_rfl)) h2 hb fun x hx => hlt x (by simp [hx]))
  obtain ⟨x0, q0, rfl, e0⟩ := open_qv (hval 0 27 v0 rfl rfl) h0
  obtain ⟨x1, l1, rfl, e1⟩ := open_iv (hval 1 24 v1 rfl rfl) h1
  obtain ⟨x2, l2, rfl, e2⟩ := open_iv (hval 2 24 v2 rfl rfl) h2
  have hle : x0.le 137438953472 := by
    have h3 := bulk_qv h0
    have h4 := of_decide_eq_true hbulk
    simp only [List.cons_append, List.nil_append, Rows.uptoBulkAll] at h4
    exact ⟨Nat.le_trans h3.1 (by omega), Nat.le_trans h3.2 (by omega)⟩
  refine (calls_law (ModmatrixFractions_ct e0 hle ⟨l1, e1, rfl⟩ ⟨l2, e2, rfl⟩)).mono fun e W' ⟨he, hb⟩ => ?_
  subst he
  exact ⟨_, rfl, post_law hW' rfl rfl rfl rfl (hargs W' hb) hb⟩

theorem modmatrixFractions_holds : Rows.ModmatrixFractionsUptoSaid :=
  OpenClaim.holds_of_cond 5 Try.f5 rfl rfl rfl rfl rfl rfl rfl ⟨rfl, rfl, rfl, rfl, rfl⟩ rfl rfl rfl rfl rfl (by kernel_rfl) Try.func5 (by kernel_rfl)
    (of_decide_eq_true (by kernel_rfl)) (by unfold Func.isWrapper; rw [if_neg (of_decide_eq_false (by kernel_rfl))]; exact ⟨rfl, rfl⟩)
    (fun os started H enc _ S => modmatrixFractions_lifted os started H enc S)

#print axioms modmatrixFractions_holds
end Go.Proofs.Ytpigpikhjlmdoaa
