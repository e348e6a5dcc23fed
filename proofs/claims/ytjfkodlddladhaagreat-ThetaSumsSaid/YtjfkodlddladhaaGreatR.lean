/- From a law's contract to its row: integers as arguments; what holds behind the call. -/
import Derived.Test.YtjfkodlddladhaaGreatM2
import Derived.ProofKit
import Derived.Lib.SmallJoins
import Derived.Carry
namespace Go.Proofs.YtjfkodlddladhaaGreat
open Go.Hp Go.ChangeShapes Go.WideShapes Go.ChangeAt Go.RowKit Go.Joins
theorem Tryz.own : ownKnob Tryz.prog.godebug = none := by kernel_rfl
theorem Tryz.laidOut : laidOutB Tryz.prog = true := by kernel_rfl
def UW (W : World) : UH := fun k => W.heap[k]?
theorem QcL (W : World) : Mem W (UW W) [] W := ⟨rfl, rfl, rfl, fun _ _ h => h, fun _ h => (by cases h), List.Pairwise.nil⟩
theorem Qfz {W : World} {a : Addr} {v : Value} (h : W.cell? a = some v) : (UW W).cell? a = some v := by
 unfold UH.cell? UW
 unfold World.cell? at h
 split at h <;> simp_all
theorem vO {W W' : World} {U' : UH} {M : MH} (hU : ULe (UW W) U') (h : Mem W U' M W') : Below W.heap.size W W' := by
 have hb : ∀ k, k < W.heap.size → W'.heap[k]? = W.heap[k]? := fun k hk => by
  have h1 := Array.getElem?_eq_getElem hk
  rw [h1]
  exact h.old _ _ (hU _ _ h1)
 refine ⟨h.os, h.tape, h.output, ?_, hb⟩
 rcases Nat.lt_or_ge W'.heap.size W.heap.size with hlt | hge
 ·have h1 := hb _ hlt
  rw [Array.getElem?_eq_getElem hlt] at h1
  simp at h1
 ·exact hge
theorem QcW {W : World} {f : Nat} {args : List Value} (h : Ct Tryz.prog f args W (UW W) [] fun v _ _ => v = .bool true) :
  Calls Tryz.prog f args.toArray W fun e W' => e = .returned (.bool true) ∧ Below W.heap.size W W' :=
 (h.calls W (QcL W)).mono fun _ _ ⟨_, _, _, h1, h2, h3, h4⟩ => ⟨by rw [h1, h4], vO h2 h3⟩
theorem yV {n : Int} (h : (Lit.int .i64 n).wf = true) : -9223372036854775808 ≤ n ∧ n ≤ 9223372036854775807 := by
 simp [Lit.wf, IntKind.min, IntKind.max, IntKind.signed, IntKind.bits] at h
 omega
section
variable {H : Type} {enc : TypeId × Value → H}
theorem QdE {f : Func} {s : ChangeSpec} {apart fresh handsOn : Bool} {W W' : World} {args : Array Value} {ds gs : List (DataW H)} {before pa : List MemPlace}
  (hW : DataW.Whole enc Tryz.prog f.params.toList s.vars apart W args.toList ds gs before) (hr : f.resultTypes = #[4]) (hres : (s.fn H (ds ++ gs)).results = [.lit (.bool true)]) (hv : s.vars = []) (hvr : (s.fn H (ds ++ gs)).vars = [])
  (hargs : DataW.TrodAll enc Tryz.prog W' 0 (fun b => decide (b < W.heap.size)) true f.params.toList args.toList (s.fn H (ds ++ gs)).args pa) (hb : Below W.heap.size W W') :
  s.post enc Tryz.prog f apart fresh handsOn false W args (.bool true) W' := by
 refine ⟨ds, gs, before, [], pa, [], hW, ?_, hargs, ?_, hb.frame _, fun h => by cases h⟩
 ·rw [hres, hr]
  exact trodAll_mk1 (shut_bool Tryz.underlying4 true)
 ·rw [hv, hvr]; rfl
end
end Go.Proofs.YtjfkodlddladhaaGreat
