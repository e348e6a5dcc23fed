/- From a law's contract to its row: fractions and intervals as arguments. -/
import Derived.Test.YtpigpikhjlmdoaaR
import Derived.Test.YtpigpikhjlmdoaaM18
namespace Go.Proofs.Ytpigpikhjlmdoaa
open Go.Hp Go.ChangeShapes Go.WideShapes Go.ChangeAt Go.RowKit Go.Joins

theorem arr4 (T : Array Value) (h : T.size = 4) : ∃ a b c d : Value, T = #[a, b, c, d] := by
  obtain ⟨l⟩ := T
  match l, h with
  | [a, b, c, d], _ => exact ⟨a, b, c, d, rfl⟩
theorem cellsQ : Try.prog.cellsOf 27 = 4 := by kernel_rfl
section
variable {H : Type} {enc : TypeId × Value → H}

/-- The cells of a fraction. -/
theorem open_qvc {W : World} {fuel : Nat} {c0 c1 c2 c3 : Value} {y : DataW H × List MemPlace} (h : DataW.trod enc Try.prog W 0 (fun _ => true) true fuel 27 [c0, c1, c2, c3] = some y) :
    ∃ (x : QV) (q : Rat), c0 = .bool x.num.neg ∧ c1 = .slice x.num.p x.num.n x.num.c ∧ c2 = .bool x.den.neg ∧ c3 = .slice x.den.p x.den.n x.den.c ∧ x.rep (UW W) [] q := by
  obtain ⟨y0, y1, m, _, _, h0, h1⟩ := trod_struct2 Try.underlying27 h
  simp only [cellsI, List.drop_zero, List.take_succ_cons, List.take_zero, List.drop_succ_cons] at h0 h1
  obtain ⟨x, l, rfl, rfl, hd⟩ := open_ivc h0
  obtain ⟨z, k, rfl, rfl, he⟩ := open_ivc h1
  exact ⟨⟨x, z⟩, _, rfl, rfl, rfl, rfl, _, _, ⟨l, hd, rfl⟩, ⟨k, he, rfl⟩, rfl⟩

set_option maxRecDepth 100000 in
/-- A fraction among the arguments. -/
theorem open_qv {W : World} {r : Reach} {b0 : Nat} {v : Value} {d : DataW H} {p : List MemPlace} (hv : Value.okWide Try.prog W r b0 27 v)
    (h : DataW.Trod enc Try.prog W 0 (fun _ => true) true 27 v d p) : ∃ (x : QV) (q : Rat), v = x.v ∧ x.rep (UW W) [] q := by
  obtain ⟨cs, rfl, hsz⟩ := okWide_struct Try.underlying27 hv
  obtain ⟨c0, c1, c2, c3, rfl⟩ := arr4 _ (hsz.trans cellsQ)
  obtain ⟨fuel, hf⟩ := h
  obtain ⟨x, q, rfl, rfl, rfl, rfl, hx⟩ := open_qvc hf
  exact ⟨x, q, rfl, hx⟩

end
end Go.Proofs.Ytpigpikhjlmdoaa
