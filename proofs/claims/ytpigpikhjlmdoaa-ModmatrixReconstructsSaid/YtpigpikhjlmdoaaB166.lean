/- The law of layer 13 on reconstruction. -/
import Derived.Test.YtpigpikhjlmdoaaB163
import Derived.Test.YtpigpikhjlmdoaaB165
namespace Go.Proofs.Ytpigpikhjlmdoaa
open Go.Hp
variable {G : World} {U U' : UH} {M : MH}

set_option maxRecDepth 100000 in
theorem ModmatrixReconstructs_ct {x : IV} {a m : Int} (hx : x.rep U [] a) (h0 : -9223372036854775808 ≤ m) (h1 : m ≤ 9223372036854775807) :
    Ct Try.prog 3 [x.v, .int .i64 m] G U M fun v _ _ => v = .bool true := by
  refine ct_of_st Try.func3 rfl rfl rfl rfl ?_
  repeat (first | refine run_S ?_ | refine w_box (fun _ => ?_) | refine w_al (fun _ => ?_))
  refine sl_call rfl rfl rfl rfl rfl rfl (fun _ => awake13_ct) ?_
  rintro v1 U1 D1 hU1 ⟨rfl, -, rfl⟩
  rw [List.nil_append]
  repeat (first | refine run_S ?_ | refine w_box (fun _ => ?_) | refine w_al (fun _ => ?_))
  refine sl_gdec rfl rfl (fun h => ?_) (fun h => ?_)
  · repeat (first | refine run_S ?_ | refine w_box (fun _ => ?_) | refine w_al (fun _ => ?_))
    exact sk_ret [] sym rfl (.cons (.tmp rfl) .nil) uc sb (.inl rfl) rfl
  have hxn : x.n ≤ 3 := by omega
  repeat (first | refine run_S ?_ | refine w_box (fun _ => ?_) | refine w_al (fun _ => ?_))
  refine st_dec rfl (fun h2 => ?_) (fun h2 => ?_)
  · repeat (first | refine run_S ?_ | refine w_box (fun _ => ?_) | refine w_al (fun _ => ?_))
    exact sk_ret [] sym rfl (.cons (.tmp rfl) .nil) uc sb (.inl rfl) rfl
  have hm1 : m ≤ 100000 := by omega
  have sm : Sz m 3 := by unfold Sz; omega
  try refine run_s ?_
  refine st_drawM [9, 10, 11] [0, 1, 2, 3, 4, 5, 6, 7, 8, 9, 10, 11] sym (by kernel_rfl) ?_
  repeat (first | refine run_S ?_ | refine w_box (fun _ => ?_) | refine w_al (fun _ => ?_))
  refine sl_call rfl rfl rfl rfl rfl rfl (fun _ => (rOf_ct (z := m) (by omega) (by omega)).settle) ?_
  rintro v Uh3 D hU ⟨rfl, _, _, ⟨xh3, rfl, h3, -⟩, -, -, hs⟩
  replace h3 := h3.sett hs
  clear hs
  repeat (first | refine run_S ?_ | refine w_box (fun _ => ?_) | refine w_al (fun _ => ?_))
  refine sl_call rfl rfl rfl rfl rfl rfl (fun _ => fRecon_ct (hx.up uc (List.Sublist.refl _)) (by omega) (h3.rep.up uc (List.Sublist.refl _)) (h3.le sm (by omega))) ?_
  rintro v4 U4 D4 hU4 ⟨r, b, e, rfl, rfl, h5, h6⟩
  try rw [List.nil_append]
  repeat (first | refine run_S ?_ | refine w_box (fun _ => ?_) | refine w_al (fun _ => ?_))
  refine st_dec rfl (fun h7 => ?_) (fun h7 => ?_)
  · obtain ⟨rfl, rfl, rfl⟩ := h5 h7
    repeat (first | refine run_S ?_ | refine w_box (fun _ => ?_) | refine w_al (fun _ => ?_))
    refine sl_gdec rfl rfl (fun _ => ?_) (fun h => absurd rfl h)
    repeat (first | refine run_S ?_ | refine w_box (fun _ => ?_) | refine w_al (fun _ => ?_))
    refine sk_ret [] sym rfl (.cons (.tmp rfl) .nil) uc sb (.inl rfl) ?_
    exact congrArg Value.bool (dec_true rfl)
  · obtain ⟨rfl, most, hR1, hR2, h8⟩ := h6 (by omega)
    obtain ⟨n, rfl⟩ : ∃ n : Nat, m = (n : Int) := ⟨m.toNat, by omega⟩
    repeat (first | refine run_S ?_ | refine w_box (fun _ => ?_) | refine w_al (fun _ => ?_))
    refine sl_call rfl rfl rfl rfl rfl rfl (fun _ => z13Recon_ct (hx.up uc (List.Sublist.refl _)) (by omega) (by omega) (by omega)) ?_
    rintro v9 U9 D9 hU9 ⟨r2, b2, rfl, rfl, most2, hS1, hS2, h10⟩
    try rw [List.nil_append]
    repeat (first | refine run_S ?_ | refine w_box (fun _ => ?_) | refine w_al (fun _ => ?_))
    obtain rfl : most = most2 := root_uniq hR1 hR2 hS1 hS2
    rcases h10 with ⟨rfl, rfl, hno⟩ | ⟨rfl, n2, d2, k1, k2, k3, k4, k5, k6, k7⟩
    · have hb : b = false ∧ r = zeroQV := by
        rcases h8 with ⟨hb, hr, -⟩ | ⟨-, n1, d1, j1, j2, j3, j4, j5, j6, -⟩
        · exact ⟨hb, hr⟩
        · obtain ⟨n', d', i1, i2, i3, i4, i5, i6, -⟩ := recon_pos j1 j2 j3 j4 j5 j6
          exact absurd i5 (hno n' d' i1 i2 i3 i4 i6)
      obtain ⟨rfl, rfl⟩ := hb
      repeat (first | refine run_S ?_ | refine w_box (fun _ => ?_) | refine w_al (fun _ => ?_))
      refine sl_gdec rfl rfl (fun _ => ?_) (fun h => absurd rfl h)
      repeat (first | refine run_S ?_ | refine w_box (fun _ => ?_) | refine w_al (fun _ => ?_))
      refine sk_ret [] sym rfl (.cons (.tmp rfl) .nil) uc sb (.inl rfl) ?_
      exact congrArg Value.bool (dec_true rfl)
    · have hb : b = true ∧ r.nrm U4 [] (Rat.divInt n2 d2) := by
        rcases h8 with ⟨-, -, hno⟩ | ⟨hb, n1, d1, j1, j2, j3, j4, j5, j6, j7⟩
        · exact absurd k5 (hno n2 d2 k1 k2 k3 k4 k6)
        · obtain ⟨n', d', i1, i2, i3, i4, i5, i6, i7⟩ := recon_pos j1 j2 j3 j4 j5 j6
          refine ⟨hb, ?_⟩
          rw [i7, recon_same hR1 (by omega) i1 i2 i3 i4 i6 k1 k2 k3 k4 k6] at j7
          exact j7
      obtain ⟨rfl, hr⟩ := hb
      repeat (first | refine run_S ?_ | refine w_box (fun _ => ?_) | refine w_al (fun _ => ?_))
      refine sl_gdec rfl rfl (fun _ => ?_) (fun h => absurd rfl h)
      repeat (first | refine run_S ?_ | refine w_box (fun _ => ?_) | refine w_al (fun _ => ?_))
      refine sl_call rfl rfl rfl rfl rfl rfl (fun _ => rqSame_ct (hr.up uc sb) (k7.up uc sb)) ?_
      rintro v U' D hU ⟨rfl, rfl, rfl⟩
      repeat (first | refine run_S ?_ | refine w_box (fun _ => ?_) | refine w_al (fun _ => ?_))
      rw [decide_eq_true rfl]
      repeat (first | refine run_S ?_ | refine w_box (fun _ => ?_) | refine w_al (fun _ => ?_))
      exact sk_ret [] sym rfl (.cons (.tmp rfl) .nil) uc sb (.inl rfl) rfl
end Go.Proofs.Ytpigpikhjlmdoaa
