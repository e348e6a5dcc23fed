/- From a law's contract to its row: spaces as arguments. -/
import Derived.Test.YtocjmbilepbokaaGreatRm
import Derived.Test.YtocjmbilepbokaaGreatM32
namespace Go.Proofs.YtocjmbilepbokaaGreat
open Go.Hp Go.ChangeShapes Go.WideShapes Go.ChangeAt Go.RowKit Go.Joins

theorem cellsS : Tryz.prog.cellsOf 26 = 4 := by kernel_rfl
section
variable {H : Type} {enc : TypeId × Value → H}
set_option maxRecDepth 100000 in
/-- A space among the arguments. -/
theorem open_sv {W : World} {r : Reach} {b0 : Nat} {v : Value} {d : DataW H} {p : List MemPlace} (hv : Value.okWide Tryz.prog W r b0 26 v)
    (h : DataW.Trod enc Tryz.prog W 0 (fun _ => true) true 26 v d p) : ∃ (d r c : Int) (n : Nat) (f : Nat → Rat), RawS (UW W) v d r c n f := by
  obtain ⟨cs, rfl, hsz⟩ := okWide_struct Tryz.underlying26 hv
  obtain ⟨c0, c1, c2, c3, rfl⟩ := arr4 _ (hsz.trans cellsS)
  obtain ⟨fuel, hf⟩ := h
  have hf : DataW.trod enc Tryz.prog W 0 (fun _ => true) true fuel 26 [c0, c1, c2, c3] = some (d, p) := hf
  obtain ⟨y0, y1, m, _, _, h0, h1⟩ := trod_struct2 Tryz.underlying26 hf
  have k0 : Tryz.prog.cellsOf 3 = 1 := by kernel_rfl
  simp only [k0, cellsM, List.drop_zero, List.take_succ_cons, List.take_zero, List.drop_succ_cons] at h0 h1
  obtain ⟨dd, e0, -, w0⟩ := DataW.trod_int Tryz.underlying3 h0
  simp only [List.cons.injEq, and_true] at e0
  subst e0
  obtain ⟨r, c, n, f, hr⟩ := open_mvc h1
  obtain ⟨h2, h3, h4, a, h5, h6⟩ := id hr
  simp only [Value.agg.injEq, Array.mk.injEq, List.cons.injEq, and_true] at h5
  obtain ⟨rfl, rfl, rfl⟩ := h5
  exact ⟨dd, r, c, n, f, int_range w0, _, rfl, hr⟩
end
end Go.Proofs.YtocjmbilepbokaaGreat
