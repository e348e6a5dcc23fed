/- The laws of layer 2: conversions, operations, neighboring integers. -/
import Derived.Test.YtcndgdjelopmaaaGreatM17
namespace Go.Proofs.YtcndgdjelopmaaaGreat
open Go.Hp
variable {G : World} {U : UH} {M : MH}

theorem rqSameT_ct {x y : QV} {p : Rat} (hx : x.nrm U M p) (hy : y.nrm U M p) :
    Ct Tryz.prog 9 [x.v, y.v] G U M fun v U' D => v = .bool true ∧ U = U' ∧ D = [] :=
  (rqSame_ct hx hy).mono fun _ _ _ _ ⟨h1, h2, h3⟩ => ⟨by rw [h1, decide_eq_true rfl], h2, h3⟩
theorem rSameT_ct {x y : IV} {z : Int} (hx : x.nrm U M z) (hy : y.nrm U M z) :
    Ct Tryz.prog 24 [x.v, y.v] G U M fun v U' D => v = .bool true ∧ U = U' ∧ D = [] :=
  (rSame_cz hx hy).mono fun _ _ _ _ ⟨h1, h2, h3⟩ => ⟨by rw [h1, decide_eq_true rfl], h2, h3⟩
theorem zeroIV0_nrm : zeroIV0.nrm U M 0 := zeroIV0_own.at (List.nil_sublist _)
theorem qvs_size {xs : List QV} : ∀ v ∈ xs.map QV.v, v.cells.toList.length = 4 := fun v hv => by obtain ⟨y, _, rfl⟩ := List.mem_map.1 hv; rfl
theorem tup_dec {p : Prop} [Decidable p] (h : p) : tup [.bool (dec p)] = .bool true := by rw [dec_true h]; rfl

theorem whole_ceil {q : Rat} : (q.den = 1 → q.ceil = q.floor) ∧ (q.den ≠ 1 → q.ceil = q.floor + 1) := by
  constructor
  · intro h
    have e := rat_eq_num h
    rw [e, Rat.ceil_intCast, Rat.floor_intCast]
  · intro h
    unfold Rat.ceil
    rw [if_neg h, Rat.floor_def]

theorem not_whole {q : Rat} (h : q.den ≠ 1) : (q.floor : Rat) < q ∧ q < (q.ceil : Rat) := by
  have h1 := Rat.floor_le q
  have h2 := Rat.lt_floor_add_one q
  rw [(whole_ceil (q := q)).2 h]
  refine ⟨?_, h2⟩
  have : (q.floor : Rat) ≠ q := fun e => h (by rw [← e]; rfl)
  grind

end Go.Proofs.YtcndgdjelopmaaaGreat
