/- Openers: an array of two integers. -/
import Derived.Test.YtjfkodlddladhaaGreatRt
import Derived.WideKeyPair
namespace Go.Proofs.YtjfkodlddladhaaGreat
open Go.Hp Go.ChangeShapes Go.WideShapes
set_option maxRecDepth 100000 in
theorem key2 : Go.WideMaps.ArrKey Tryz.prog 86 3 2 := by constructor <;> kernel_rfl
section
variable {H : Type} {enc : TypeId × Value → H}
set_option maxRecDepth 100000 in
theorem QfE {W : World} {r : Reach} {b0 : Nat} {v : Value} {d : DataW H} {p : List MemPlace} (hv : Value.okWide Tryz.prog W r b0 86 v)
  (h : DataW.Trod enc Tryz.prog W 0 (fun _ => true) true 86 v d p) : ∃ a b : Int, v = .agg #[.int .i64 a, .int .i64 b] := by
 obtain ⟨a, b, rfl, -⟩ := Go.WideMaps.open_pair key2 Tryz.underlying3 hv h
 exact ⟨a, b, rfl⟩
end
end Go.Proofs.YtjfkodlddladhaaGreat
