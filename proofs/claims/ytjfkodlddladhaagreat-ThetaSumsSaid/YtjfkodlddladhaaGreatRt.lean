/- From a law's contract to its row: even forms, binary forms, lists of machine integers as arguments. -/
import Derived.Test.YtjfkodlddladhaaGreatRf
namespace Go.Proofs.YtjfkodlddladhaaGreat
open Go.Hp Go.ChangeShapes Go.WideShapes Go.ChangeAt Go.RowKit Go.Joins
theorem arr2 (T : Array Value) (h : T.size = 2) : ∃ a b : Value, T = #[a, b] := by
 obtain ⟨l⟩ := T
 match l, h with
 | [a, b], _ => exact ⟨a, b, rfl⟩
structure RawG (U : UH) (v : Value) (r : Int) (n : Nat) (f : Nat → Int) : Prop where
 rank : -9223372036854775808 ≤ r ∧ r ≤ 9223372036854775807
 num : n ≤ 9223372036854775807
 elt : ∃ a, v = .agg #[.int .i64 r, a] ∧ Ls Vz 1 n U [] a f
structure RawQ (v : Value) (a b c : Int) : Prop where
 ra : -9223372036854775808 ≤ a ∧ a ≤ 9223372036854775807
 rb : -9223372036854775808 ≤ b ∧ b ≤ 9223372036854775807
 rc : -9223372036854775808 ≤ c ∧ c ≤ 9223372036854775807
 elt : v = .agg #[.int .i64 a, .int .i64 b, .int .i64 c]
section
variable {H : Type} {enc : TypeId × Value → H}
set_option maxRecDepth 100000 in
theorem Qer {W : World} {fuel : Nat} {c0 c1 : Value} {y : DataW H × List MemPlace} (hf : DataW.trod enc Tryz.prog W 0 (fun _ => true) true fuel 24 [c0, c1] = some y) : ∃ (r : Int) (n : Nat) (f : Nat → Int), RawG (UW W) (.agg #[c0, c1]) r n f := by
 obtain ⟨y0, y1, m, _, _, h0, h1⟩ := trod_struct2 Tryz.underlying24 hf
 have k0 : Tryz.prog.cellsOf 3 = 1 := by kernel_rfl
 have k1 : Tryz.prog.cellsOf 22 = 1 := by kernel_rfl
 simp only [k0, k1, List.drop_zero, List.take_succ_cons, List.take_zero, List.drop_succ_cons] at h0 h1
 obtain ⟨r, e0, -, w0⟩ := DataW.trod_int Tryz.underlying3 h0
 obtain ⟨p, n, cc, vs, f, rfl, hn, hc, hr, he⟩ := QfS h1
 simp only [List.cons.injEq, and_true] at e0
 subst e0
 exact ⟨r, n, f, yV w0, by omega, _, rfl, p, cc, vs, rfl, hn, hr, he⟩
set_option maxRecDepth 100000 in
theorem Qcp {W : World} {r : Reach} {b0 : Nat} {v : Value} {d : DataW H} {p : List MemPlace} (hv : Value.okWide Tryz.prog W r b0 24 v)
  (h : DataW.Trod enc Tryz.prog W 0 (fun _ => true) true 24 v d p) : ∃ (r : Int) (n : Nat) (f : Nat → Int), RawG (UW W) v r n f := by
 have kS : Tryz.prog.cellsOf 24 = 2 := by kernel_rfl
 obtain ⟨cs, rfl, hsz⟩ := okWide_struct Tryz.underlying24 hv
 obtain ⟨c0, c1, rfl⟩ := arr2 _ (hsz.trans kS)
 obtain ⟨fuel, hf⟩ := h
 exact Qer hf
end
end Go.Proofs.YtjfkodlddladhaaGreat
