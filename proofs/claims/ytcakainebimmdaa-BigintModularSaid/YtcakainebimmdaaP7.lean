/- BigintModular: for every base, two exponents and modulus the law returns true, and its argument reads afterwards as before. No condition. -/
import Derived.Test.YtcakainebimmdaaRows
import Derived.Test.YtcakainebimmdaaR
import Derived.Test.YtcakainebimmdaaB46
namespace Go.Proofs.Ytcakainebimmdaa
open Go.Hp Go.ChangeShapes Go.WideShapes Go.ChangeAt Go.RowKit Go.Joins

theorem array8 {α : Type} {cs : Array α} (h : cs.size = 8) : ∃ c0 c1 c2 c3 c4 c5 c6 c7, cs = #[c0, c1, c2, c3, c4, c5, c6, c7] := by
  obtain ⟨l⟩ := cs
  simp only [List.size_toArray] at h
  match l, h with
  | [c0, c1, c2, c3, c4, c5, c6, c7], _ => exact ⟨c0, c1, c2, c3, c4, c5, c6, c7, rfl⟩
theorem cellsE : Try.prog.cellsOf 50 = 8 := by kernel_rfl

set_option maxRecDepth 100000 in
theorem bigintModular_lifted (os : Os) (started : os.Started) (H : Type) (enc : TypeId × Value → H) :
    ReturnsInHanded {} Try.checked os 9 .any (Rows.bigintModularSpec.pre6 enc Try.prog Try.f9 Rows.bigintModularRow.domain false) (Rows.bigintModularSpec.post enc Try.prog Try.f9 false true false false) := by
  refine returnsInHanded_of_change (C := Try.checked) Try.own started (by kernel_rfl) Try.func9
    (ChangeSpec.witness6 (enc := enc) (C := Try.checked) false ⟨#[], #[.agg #[.bool false, .slice none 0 0, .bool false, .slice none 0 0, .bool false, .slice none 0 0, .bool false, .slice none 0 0]], []⟩ 8 (by kernel_rfl) (by kernel_rfl) (by kernel_rfl) (by kernel_rfl)) ?_
  intro W base args ds gs before hval0 hW hcnd _
  have hval : ∀ (j : Nat) t v, Try.f9.params[j]? = some t → args[j]? = some v → Value.okWide Try.prog W .any base t v := hval0
  have hW' := hW
  obtain ⟨p, q, hA0, hV, rfl, hfz, hnd⟩ := hW
  have hA : DataW.TrodAll enc Try.prog W 0 (fun _ => true) true Try.f9.params.toList args.toList ds p := hA0
  rw [Try.params9] at hA hval
  obtain ⟨v0, d0, rfl, rfl, h0⟩ := trodAll_one hA
  obtain ⟨rfl, rfl⟩ := trodVars_none hV
  have hlt : ∀ x ∈ p, x.block < W.heap.size := fun x hx => by simpa using hW'.lt x (List.mem_append_left _ (by simpa using hx))
  have hargs : ∀ W', Below W.heap.size W W' → DataW.TrodAll enc Try.prog W' 0 (fun b => decide (b < W.heap.size)) true [50] [v0] [d0] p := fun W' hb =>
    trodAll_mk1 (Below.trod Try.laidOut (by kernel_rfl) (of_decide_eq_true (by kernel_rfl)) h0 hb fun x hx => hlt x (by simp [hx]))
  obtain ⟨cs, rfl, hsz⟩ := okWide_struct Try.underlying50 (hval 0 50 v0 rfl rfl)
  obtain ⟨c0, c1, c2, c3, c4, c5, c6, c7, rfl⟩ := array8 (hsz.trans cellsE)
  obtain ⟨fuel, hf⟩ := h0
  obtain ⟨y0, y1, y2, y3, n, _, _, g0, g1, g2, g3⟩ := trod_struct4 Try.underlying50 hf
  simp only [Value.cells, cellsI, List.drop_zero, List.take_succ_cons, List.take_zero, List.drop_succ_cons] at g0 g1 g2 g3
  obtain ⟨x0, l0, rfl, rfl, e0⟩ := open_ivc g0
  obtain ⟨x1, l1, rfl, rfl, e1⟩ := open_ivc g1
  obtain ⟨x2, l2, rfl, rfl, e2⟩ := open_ivc g2
  obtain ⟨x3, l3, rfl, rfl, e3⟩ := open_ivc g3
  refine (calls_law (BigintModular_ct ⟨l0, e0, rfl⟩ ⟨l1, e1, rfl⟩ ⟨l2, e2, rfl⟩ ⟨l3, e3, rfl⟩)).mono fun e W' ⟨he, hb⟩ => ?_
  subst he
  exact ⟨_, rfl, post_law hW' rfl rfl rfl rfl (hargs W' hb) hb⟩

theorem bigintModular_holds : Rows.BigintModularSaid :=
  OpenClaim.holds_of_wide 9 Try.f9 rfl rfl rfl rfl rfl rfl rfl ⟨rfl, rfl, rfl, rfl, rfl⟩ rfl rfl rfl rfl rfl (by kernel_rfl) Try.func9 (by kernel_rfl)
    (of_decide_eq_true (by kernel_rfl)) (by unfold Func.isWrapper; rw [if_neg (of_decide_eq_false (by kernel_rfl))]; exact ⟨rfl, rfl⟩)
    (fun os started H enc _ => bigintModular_lifted os started H enc)

#print axioms bigintModular_holds
end Go.Proofs.Ytcakainebimmdaa
