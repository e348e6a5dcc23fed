/- From a law's contract to its row: even forms, binary forms, lists of machine integers as arguments. -/
import Derived.Test.YtjfkodlddladhaaGreatRf
namespace Go.Proofs.YtjfkodlddladhaaGreat
open Go.Hp Go.ChangeShapes Go.WideShapes Go.ChangeAt Go.RowKit Go.Joins
structure RawG (U : UH) (v : Value) (r : Int) (n : Nat) (f : Nat → Int) : Prop where
  rank : -9223372036854775808 ≤ r ∧ r ≤ 9223372036854775807
  num : n ≤ 9223372036854775807
  elt : ∃ a, v = .agg #[.int .i64 r, a] ∧ Ls Vz 1 n U [] a f
structure RawQ (v : Value) (a b c : Int) : Prop where
  ra : -9223372036854775808 ≤ a ∧ a ≤ 9223372036854775807
  rb : -9223372036854775808 ≤ b ∧ b ≤ 9223372036854775807
  rc : -9223372036854775808 ≤ c ∧ c ≤ 9223372036854775807
  elt : v = .agg #[.int .i64 a, .int .i64 b, .int .i64 c]
section
variable {H : Type} {enc : TypeId × Value → H}
set_option maxRecDepth 100000 in
theorem open_qf {W : World} {r : Reach} {b0 : Nat} {v : Value} {d : DataW H} {p : List MemPlace} (hv : Value.okWide Tryz.prog W r b0 56 v)
    (h : DataW.Trod enc Tryz.prog W 0 (fun _ => true) true 56 v d p) : ∃ (a b c : Int), RawQ v a b c := by
  have kS : Tryz.prog.cellsOf 56 = 3 := by kernel_rfl
  obtain ⟨cs, rfl, hsz⟩ := okWide_struct Tryz.underlying56 hv
  obtain ⟨c0, c1, c2, rfl⟩ := arr3 _ (hsz.trans kS)
  obtain ⟨fuel, hf⟩ := h
  have hf : DataW.trod enc Tryz.prog W 0 (fun _ => true) true fuel 56 [c0, c1, c2] = some (d, p) := hf
  obtain ⟨y0, y1, y2, m, _, _, h0, h1, h2⟩ := Go.Deep.trod_struct3 Tryz.underlying56 hf
  have k0 : Tryz.prog.cellsOf 3 = 1 := by kernel_rfl
  simp only [k0, List.drop_zero, List.take_succ_cons, List.take_zero, List.drop_succ_cons] at h0 h1 h2
  obtain ⟨x, e0, -, w0⟩ := DataW.trod_int Tryz.underlying3 h0
  obtain ⟨y, e1, -, w1⟩ := DataW.trod_int Tryz.underlying3 h1
  obtain ⟨z, e2, -, w2⟩ := DataW.trod_int Tryz.underlying3 h2
  simp only [List.cons.injEq, and_true] at e0 e1 e2
  subst e0 e1 e2
  exact ⟨x, y, z, int_range w0, int_range w1, int_range w2, rfl⟩
end
end Go.Proofs.YtjfkodlddladhaaGreat
