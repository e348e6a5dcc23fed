/- Texts of this seat's own, merged: each begins with its own remark. -/
import Derived.Test.YtjfkodlddladhaaGreatM54
import Derived.Test.YtjfkodlddladhaaGreatM50
import Derived.Test.YtjfkodlddladhaaGreatM15
import Derived.Test.YtjfkodlddladhaaGreatM17
import Derived.Test.YtjfkodlddladhaaGreatRt
/- Layer 36: the forms of squares, coefficients of series. -/
namespace Go.Proofs.YtjfkodlddladhaaGreat
open Go.Hp
variable {G : World} {U U' : UH} {M : MH}
def fu (n : Nat) : Nat → Int := fun k => if k / n = k % n then 2 else 0
end Go.Proofs.YtjfkodlddladhaaGreat

/- Walks of layer 36: unit, Prec, Coef. -/
namespace Go.Proofs.YtjfkodlddladhaaGreat
open Go.Hp
variable {G : World} {U U' : UH} {M : MH}
theorem r33Prec_ct {ok : UH → Value → Rat → Prop} {v : Value} {f : Int} {N : Nat} {g : Nat → Rat} (h : Vser ok U M v f N g) (hf : -9223372036854775808 ≤ f + N ∧ f + N ≤ 9223372036854775807) :
    Ct Tryz.prog 20 [v] G U M fun v U' D => v = .int .i64 (f + N) ∧ U = U' ∧ D = [] := by
  obtain ⟨_, rfl, p, c, vs, rfl, -⟩ := h
  refine ct_of_st Tryz.func20 rfl rfl rfl rfl ?_
  repeat (first | refine run_S ?_ | refine w_box (fun _ => ?_) | refine w_al (fun _ => ?_))
  exact sk_ret [] sym rfl (.cons (.tmp rfl) .nil) uc sb (.inl rfl) ⟨rfl, rfl, rfl⟩
theorem r33Coef_ct {v : Value} {f n : Int} {N b : Nat} {g : Nat → Rat} (h : Vser Vq U M v f N g) (hz : ∀ k, k < N → Szq (g k) b) (hb : b ≤ 100000000) (hN : N ≤ 1000000000) (hf : -1000000 ≤ f ∧ f ≤ 1000000) (hn : -1000000 ≤ n ∧ n ≤ 1000000) :
    Ct Tryz.prog 22 [v, .int .i64 n] G U M fun v U' D => ∃ x : QV, v = x.v ∧ x.nrm U' [] (if n < f ∨ f + N ≤ n then 0 else g (n - f).toNat) ∧ D = [] := by
  obtain ⟨_, rfl, p, c, vs, rfl, hc, rx, ex⟩ := h
  refine ct_of_st Tryz.func22 rfl rfl rfl rfl ?_
  repeat (first | refine run_S ?_ | refine w_box (fun _ => ?_) | refine w_al (fun _ => ?_))
  rename_i b2 b4
  refine sl_gdec rfl rfl (fun h1 => ?_) (fun h1 => ?_)
  · repeat (first | refine run_S ?_ | refine w_box (fun _ => ?_) | refine w_al (fun _ => ?_))
    refine sl_call rfl rfl rfl rfl rfl rfl (fun _ => (bQ_ct (z := 0) (by decide) (by decide)).settle) ?_
    rintro v Uh5 D hU ⟨rfl, _, _, ⟨xh5, rfl, h5, -⟩, -, -, hs⟩
    replace h5 := h5.sett hs
    clear hs
    repeat (first | refine run_S ?_ | refine w_box (fun _ => ?_) | refine w_al (fun _ => ?_))
    rw [if_pos (.inl h1)]
    exact sk_ret [] sym rfl (.cons (.cell 0 rfl rfl rfl) .nil) uc sb (.inl rfl) ⟨xh5, rfl, h5, rfl⟩
  repeat (first | refine run_S ?_ | refine w_box (fun _ => ?_) | refine w_al (fun _ => ?_))
  refine st_dec rfl (fun h2 => ?_) (fun h2 => ?_)
  · repeat (first | refine run_S ?_ | refine w_box (fun _ => ?_) | refine w_al (fun _ => ?_))
    refine sl_call rfl rfl rfl rfl rfl rfl (fun _ => (bQ_ct (z := 0) (by decide) (by decide)).settle) ?_
    rintro v Uh5 D hU ⟨rfl, _, _, ⟨xh5, rfl, h5, -⟩, -, -, hs⟩
    replace h5 := h5.sett hs
    clear hs
    repeat (first | refine run_S ?_ | refine w_box (fun _ => ?_) | refine w_al (fun _ => ?_))
    rw [if_pos (.inr h2)]
    exact sk_ret [] sym rfl (.cons (.cell 0 rfl rfl rfl) .nil) uc sb (.inl rfl) ⟨xh5, rfl, h5, rfl⟩
  obtain ⟨k, rfl⟩ : ∃ k : Nat, n = f + k := ⟨(n - f).toNat, by omega⟩
  have hkN : k < N := by omega
  obtain ⟨v1, hv1⟩ := rx.at hkN
  obtain ⟨x1, rfl, hx1⟩ := ex _ _ hv1
  rw [if_neg (by omega), show (f + (k : Int) - f).toNat = k by omega]
  repeat (first | refine run_S ?_ | refine w_box (fun _ => ?_) | refine w_al (fun _ => ?_))
  refine sl_y (yl_index sym rfl rfl rfl rfl rfl ( (show _ = ((k : Nat) : Int) by omega)) ((rx.up uc sb).lt hv1) ((rx.up uc sb).get _ _ hv1).1) rfl rfl rfl rfl ?_; refine sl_y (yl_loadRs sym rfl rfl rfl rfl rfl (rx.up uc sb) hv1) rfl rfl rfl rfl ?_
  repeat (first | refine run_S ?_ | refine w_box (fun _ => ?_) | refine w_al (fun _ => ?_))
  refine sl_call rfl rfl rfl rfl rfl rfl (fun _ => rqNormal_ct (hx1.rep.up uc (List.nil_sublist _)) (hx1.le (hz k hkN) (by omega))) ?_
  rintro v Uh6 D hU ⟨xh6, rfl, h6, rfl⟩
  repeat (first | refine run_S ?_ | refine w_box (fun _ => ?_) | refine w_al (fun _ => ?_))
  exact sk_ret [] sym rfl (.cons (.cell 0 rfl rfl rfl) .nil) uc sb (.inl rfl) ⟨xh6, rfl, h6, rfl⟩
end Go.Proofs.YtjfkodlddladhaaGreat

/- Laws of layer 36: squares. -/
namespace Go.Proofs.YtjfkodlddladhaaGreat
open Go.Hp
variable {G : World} {U U' : UH} {M : MH}
theorem Vser.up {ok : UH → Value → Rat → Prop} {M' : MH} {v : Value} {f : Int} {N : Nat} {g : Nat → Rat} (h : Vser ok U M v f N g) (hk : Kept ok) (hU : ULe U U') (hM : M.Sublist M') : Vser ok U' M' v f N g := by
  obtain ⟨a, h1, h2⟩ := h
  exact ⟨a, h1, h2.up hk hU hM⟩
def gsq (n' n : Nat) : Nat → Rat := fun q => (((cv n' (fu n') (fun _ => Bx.rt n) (Bx.pre (fun _ => Bx.rt n) n') q : Nat) : Int) : Rat)
theorem skp_at {g : Nat → Rat} {n s : Nat} (h : Skp g (n + 1) s) : (if (n : Int) < (s : Int) ∨ (s : Int) + ((n + 1 - s : Nat) : Int) ≤ (n : Int) then (0 : Rat) else g (s + ((n : Int) - (s : Int)).toNat)) = g n := by
  have h1 := h.1
  by_cases e : n < s
  · rw [if_pos (.inl (by omega)), h.2.1 n e]
  · rw [if_neg (by omega), show s + ((n : Int) - (s : Int)).toNat = n by omega]
end Go.Proofs.YtjfkodlddladhaaGreat
