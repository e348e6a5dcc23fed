/- Walks of layer 13's reference: residues, also of fractions. -/
import Derived.Test.YtpigpikhjlmdoaaGreatM43
import Derived.Test.YtpigpikhjlmdoaaGreatM41
import Derived.Test.YtpigpikhjlmdoaaGreatM35
import Derived.Test.YtpigpikhjlmdoaaGreatM44
import Derived.Test.YtpigpikhjlmdoaaGreatM48
namespace Go.Proofs.YtpigpikhjlmdoaaGreat
open Go.Hp
open Go.Fq (Pm Fp Prm)
variable {G : World} {U U' : UH} {M : MH}

/-- The same entries in another order, after stores. -/
theorem pfs {α : Type} {a b : List α} (h : ∀ f : α → Nat, (a.map f).sum = (b.map f).sum := by intro f; simp only [List.set_cons_zero, List.set_cons_succ, TInt, TIs, TF, TR, zeroQV, zeroIV0, QV.v, List.map_append, List.map_cons, List.sum_append, List.sum_cons, List.flatten_cons, List.flatten_append, List.flatten_nil, List.map_nil, List.sum_nil, List.nil_append, List.append_nil]; omega) : a.Perm b := pf h

/-- The residue of an integer. -/
theorem fof_ct {P : Pm} {x : IV} {z : Int} (hx : x.rep U [] z) (hn : x.n ≤ 274877906944) (hp : P.1 ≤ 65536) :
    Ct Tryz.prog 53 [x.v, .int .i64 (P.1 : Int)] G U M fun v U' D => v = .int .i64 ((Fq.of P z).v : Int) ∧ ULe U U' ∧ D = [] := by
  have hp2 := P.2.two
  have sp : Sz (P.1 : Int) 1 := by unfold Sz; omega
  have hb : 0 ≤ z % (P.1 : Int) ∧ z % (P.1 : Int) < (P.1 : Int) := ⟨Int.emod_nonneg _ (by omega), Int.emod_lt_of_pos _ (by omega)⟩
  refine ct_of_st Tryz.func53 rfl rfl rfl rfl ?_
  repeat (first | refine run_S ?_ | refine w_box (fun _ => ?_) | refine w_al (fun _ => ?_))
  refine st_drawM [10, 11, 12] [0, 1, 2, 3, 4, 5, 6, 7, 8, 9, 10, 11, 12] sym (by kernel_rfl) ?_
  repeat (first | refine run_S ?_ | refine w_box (fun _ => ?_) | refine w_al (fun _ => ?_))
  refine sl_call rfl rfl rfl rfl rfl rfl (fun _ => (Of_ct (z := (P.1 : Int)) (by omega) (by omega)).settle) ?_
  rintro v Uh1 D hU ⟨rfl, _, _, ⟨xh1, rfl, h1, -⟩, -, -, hs⟩
  replace h1 := h1.sett hs
  clear hs
  repeat (first | refine run_S ?_ | refine w_box (fun _ => ?_) | refine w_al (fun _ => ?_))
  refine sl_call rfl rfl rfl rfl rfl rfl (fun _ => DivMod_st (hx.up uc (List.nil_sublist _)) (by omega) (h1.rep.up uc (List.nil_sublist _)) (h1.le sp (by omega)) (by omega)) ?_
  rintro v3 U3 D3 hU3 ⟨xq, xr, rfl, -, hr, rfl⟩
  try rw [List.nil_append]
  repeat (first | refine run_S ?_ | refine w_box (fun _ => ?_) | refine w_al (fun _ => ?_))
  refine sl_call rfl rfl rfl rfl rfl rfl (fun _ => Small_ct (hr.rep.up uc (List.nil_sublist _)) (hr.le (k := 1) (by unfold Sz; omega) (by omega))) ?_
  rintro v U' D hU ⟨rfl, rfl, rfl⟩
  repeat (first | refine run_S ?_ | refine w_box (fun _ => ?_) | refine w_al (fun _ => ?_))
  obtain ⟨e1, -⟩ := sm_in (z := z % (P.1 : Int)) (by omega)
  rw [e1]
  repeat (first | refine run_S ?_ | refine w_box (fun _ => ?_) | refine w_al (fun _ => ?_))
  exact sk_ret [] sym rfl (.cons (.tmp rfl) .nil) uc sb (.inl rfl) ⟨by rw [Fq.of_val]; rfl, uc, rfl⟩

end Go.Proofs.YtpigpikhjlmdoaaGreat
