/- The types of this seat's program, as the rules of the walk ask them. -/
import Derived.Test.YtcakainebimmdaaProg
import Derived.Test.YtcakainebimmdaaHe
import Derived.KernelRfl
namespace Go.Proofs.Ytcakainebimmdaa
open Go.Hp

def tys : TT := [
  (22, ⟨.slice 56, 1, 24, .slice none 0 0⟩),
  (56, ⟨.int .u32, 1, 4, .int .u32 0⟩),
  (3, ⟨.int .i64, 1, 8, .int .i64 0⟩),
  (4, ⟨.bool, 1, 1, .bool false⟩),
  (24, ⟨.struct [(4, 0), (22, 1)], 2, 32, .agg #[.bool false, .slice none 0 0]⟩),
  (66, ⟨.int .u64, 1, 8, .int .u64 0⟩),
  (35, ⟨.int .i64, 1, 8, .int .i64 0⟩),
  (70, ⟨.int .u64, 1, 8, .int .u64 0⟩),
  (5, ⟨.int .u8, 1, 1, .int .u8 0⟩),
  (72, ⟨.slice 5, 1, 24, .slice none 0 0⟩),
  (9, ⟨.str, 1, 16, .string ⟨#[]⟩⟩),
  (55, ⟨.slice 24, 1, 24, .slice none 0 0⟩)]

theorem sym : Sym Try.prog tys where
  ok := by
    intro e he
    simp only [tys, List.mem_cons, List.not_mem_nil, or_false] at he
    rcases he with rfl | rfl | rfl | rfl | rfl | rfl | rfl | rfl | rfl | rfl | rfl | rfl <;> exact ⟨by kernel_rfl, by kernel_rfl⟩
  mixed := by kernel_rfl

end Go.Proofs.Ytcakainebimmdaa
