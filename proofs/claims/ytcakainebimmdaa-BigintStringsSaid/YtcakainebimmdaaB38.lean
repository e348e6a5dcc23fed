/- The law on division. -/
import Derived.Test.YtcakainebimmdaaM6
import Derived.Test.YtcakainebimmdaaM7
namespace Go.Proofs.Ytcakainebimmdaa
open Go.Hp
variable {G : World} {U : UH} {M : MH}

theorem Sz.div {z : Int} {k : Nat} (h : Sz z k) (u : Int) : Sz (z / u) k := Nat.lt_of_le_of_lt (Int.natAbs_ediv_le_natAbs z u) h
theorem Sz.mod {u : Int} {k : Nat} (h : Sz u k) (hu : u ≠ 0) (z : Int) : Sz (z % u) k := by
  unfold Sz at *
  have h1 := Int.emod_nonneg z hu
  have h2 := Int.emod_lt z hu
  omega

theorem BigintDivides_ct {a b : IV} {za zb : Int} (ha : a.rep U M za) (hb : b.rep U M zb) :
    Ct Try.prog 5 [a.v, b.v] G U M fun v _ _ => v = .bool true := by
  refine ct_of_st Try.func5 rfl rfl rfl rfl ?_
  repeat (first | refine run_S ?_ | refine w_box (fun _ => ?_) | refine w_al (fun _ => ?_))
  refine sl_call rfl rfl rfl rfl rfl rfl (fun _ => awake_ct) ?_
  rintro v U1 D hUc ⟨rfl, -, rfl⟩
  repeat (first | refine run_S ?_ | refine w_box (fun _ => ?_) | refine w_al (fun _ => ?_))
  refine sl_bslice (vs := [a, b].map IV.v) sym rfl rfl rfl rfl rfl rfl (by intro v hv; obtain ⟨y, _, rfl⟩ := List.mem_map.1 hv; rfl) rfl rfl rfl rfl rfl rfl (fun bo => ?_)
  repeat (first | refine run_S ?_ | refine w_box (fun _ => ?_) | refine w_al (fun _ => ?_))
  refine sl_call rfl rfl rfl rfl rfl rfl (fun _ => long_ct (ivs_head.app _) rfl (by decide)) ?_
  rintro v U' D hU ⟨r, rfl, hr, rfl, rfl⟩
  repeat (first | refine run_S ?_ | refine w_box (fun _ => ?_) | refine w_al (fun _ => ?_))
  cases r
  · have hr := hr rfl
    have hna : a.n ≤ 40 := hr a (by simp)
    have hnb : b.n ≤ 40 := hr b (by simp)
    have sa := ha.sz hna
    have sbb := hb.sz hnb
    repeat (first | refine run_S ?_ | refine w_box (fun _ => ?_) | refine w_al (fun _ => ?_))
    by_cases hu : zb = 0
    · refine sl_call rfl rfl rfl rfl rfl rfl (fun _ => DivMod_ct (ha.up hUc sb) (by omega) (hb.up hUc sb) (by omega)) ?_
      rintro v U2 D hU ⟨q, r, e, Dq, Dr, rfl, rfl, -, h2, -⟩
      obtain ⟨rfl, rfl, rfl, rfl, rfl⟩ := h2 hu
      replace hUc := hUc.trans hU
      repeat (first | refine run_S ?_ | refine w_box (fun _ => ?_) | refine w_al (fun _ => ?_))
      refine sl_call rfl rfl rfl rfl rfl rfl (fun _ => Exact_ct (ha.up hUc sb) (by omega) (hb.up hUc sb) (by omega)) ?_
      rintro v U3 D hU ⟨r, e, rfl, h3, -, -, -⟩
      obtain ⟨rfl, rfl, rfl⟩ := h3 hu
      replace hUc := hUc.trans hU
      repeat (first | refine run_S ?_ | refine w_box (fun _ => ?_) | refine w_al (fun _ => ?_))
      refine sl_call rfl rfl rfl rfl rfl rfl (fun _ => rSign_ct (hb.up hUc sb) (by omega)) ?_
      rintro v U' D hU ⟨rfl, rfl, rfl⟩
      repeat (first | refine run_S ?_ | refine w_box (fun _ => ?_) | refine w_al (fun _ => ?_))
      refine st_eq rfl (fun _ => ?_) (fun h => absurd (by rw [hu]; rfl) h)
      repeat (first | refine run_S ?_ | refine w_box (fun _ => ?_) | refine w_al (fun _ => ?_))
      refine sl_gdec rfl rfl (fun _ => ?_) (fun h => absurd rfl h)
      repeat (first | refine run_S ?_ | refine w_box (fun _ => ?_) | refine w_al (fun _ => ?_))
      refine sl_gdec rfl rfl (fun _ => ?_) (fun h => absurd rfl h)
      repeat (first | refine run_S ?_ | refine w_box (fun _ => ?_) | refine w_al (fun _ => ?_))
      refine sl_bslice (vs := [zeroIV, zeroIV, zeroIV].map IV.v) sym rfl rfl rfl rfl rfl rfl (by intro v hv; obtain ⟨y, _, rfl⟩ := List.mem_map.1 hv; rfl) rfl rfl rfl rfl rfl rfl (fun b2 => ?_)
      repeat (first | refine run_S ?_ | refine w_box (fun _ => ?_) | refine w_al (fun _ => ?_))
      refine sl_call rfl rfl rfl rfl rfl rfl (fun _ => zero_ct (ivs_head.app _) rfl (by decide) (by simp)) ?_
      rintro v U' D hU ⟨rfl, rfl, rfl⟩
      repeat (first | refine run_S ?_ | refine w_box (fun _ => ?_) | refine w_al (fun _ => ?_))
      exact sk_ret [] sym rfl (.cons (.tmp rfl) .nil) hUc sb (.inl rfl) rfl
    · refine sl_call rfl rfl rfl rfl rfl rfl (fun _ => DivMod_ct (ha.up hUc sb) (by omega) (hb.up hUc sb) (by omega)) ?_
      rintro v U2 D hU ⟨q, r, e, Dq, Dr, rfl, rfl, h1, -, -⟩
      obtain ⟨rfl, hq, hr⟩ := h1 hu
      replace hUc := hUc.trans hU
      refine sl_perm ?_ (perm3 (D := Dr ++ Dq))
      repeat (first | refine run_S ?_ | refine w_box (fun _ => ?_) | refine w_al (fun _ => ?_))
      refine sl_call rfl rfl rfl rfl rfl rfl (fun _ => Exact_ct (ha.up hUc sb) (by omega) (hb.up hUc sb) (by omega)) ?_
      rintro v U3 Dx hU ⟨x, ex, rfl, -, hx0, hx1, -⟩
      replace hUc := hUc.trans hU
      refine sl_perm ?_ (perm5 (D := Dx))
      repeat (first | refine run_S ?_ | refine w_box (fun _ => ?_) | refine w_al (fun _ => ?_))
      refine sl_call rfl rfl rfl rfl rfl rfl (fun _ => rSign_ct (hb.up hUc sb) (by omega)) ?_
      rintro v U' D hU ⟨rfl, rfl, rfl⟩
      repeat (first | refine run_S ?_ | refine w_box (fun _ => ?_) | refine w_al (fun _ => ?_))
      refine st_eq rfl (fun h => absurd (Int.sign_eq_zero_iff_zero.1 h) hu) (fun _ => ?_)
      repeat (first | refine run_S ?_ | refine w_box (fun _ => ?_) | refine w_al (fun _ => ?_))
      refine sl_call rfl rfl rfl rfl rfl rfl (fun _ => rEuclid_ct (ha.up hUc sb) (by omega) (hb.up hUc sb) (by omega) hu) ?_
      rintro v U' D4 hU ⟨q2, r2, Dq2, Dr2, rfl, rfl, hq2, hr2, rfl⟩
      refine sl_perm ?_ (perm6 (D := Dr2 ++ Dq2))
      repeat (first | refine run_S ?_ | refine w_box (fun _ => ?_) | refine w_al (fun _ => ?_))
      refine st_draw [0, 1, 2, 3, 4, 5, 6, 7, 8, 9, 10, 11, 12, 13, 14, 15, 16, 18, 20, 17, 19, 21, 22, 23, 24] sym (by kernel_rfl) ?_
      repeat (first | refine run_S ?_ | refine w_box (fun _ => ?_) | refine w_al (fun _ => ?_))
      refine sl_gdec rfl rfl (fun h => absurd rfl h) (fun _ => ?_)
      repeat (first | refine run_S ?_ | refine w_box (fun _ => ?_) | refine w_al (fun _ => ?_))
      refine sl_call rfl rfl rfl rfl rfl rfl (fun _ => Same_ct (hq.at sb) (hq2.at sb)) ?_
      rintro v U' D hU ⟨rfl, rfl, rfl⟩
      repeat (first | refine run_S ?_ | refine w_box (fun _ => ?_) | refine w_al (fun _ => ?_))
      refine sl_call rfl rfl rfl rfl rfl rfl (fun _ => Same_ct (hr.at sb) (hr2.at sb)) ?_
      rintro v U' D hU ⟨rfl, rfl, rfl⟩
      repeat (first | refine run_S ?_ | refine w_box (fun _ => ?_) | refine w_al (fun _ => ?_))
      refine sl_call rfl rfl rfl rfl rfl rfl (fun _ => Mul_ct (hq.at sb).rep (hq.le (sa.div zb) (by decide)) (hb.up hUc sb) (by omega)) ?_
      rintro v U' Dh5 hU ⟨xh5, rfl, h5, rfl⟩
      refine sl_perm ?_ (perm8 (D := Dh5))
      repeat (first | refine run_S ?_ | refine w_box (fun _ => ?_) | refine w_al (fun _ => ?_))
      refine sl_call rfl rfl rfl rfl rfl rfl (fun _ => Add_ct (h5.at sb).rep (h5.le ((sa.div zb).mul sbb) (by decide)) (hr.at sb).rep (hr.le (sbb.mod hu za) (by decide))) ?_
      rintro v U' Dh6 hU ⟨xh6, rfl, h6, rfl⟩
      refine sl_perm ?_ (perm8 (D := Dh6))
      repeat (first | refine run_S ?_ | refine w_box (fun _ => ?_) | refine w_al (fun _ => ?_))
      refine sl_call rfl rfl rfl rfl rfl rfl (fun _ => Normal_ct (ha.up hUc sb) (by omega)) ?_
      rintro v U' Dh7 hU ⟨xh7, rfl, h7, rfl⟩
      refine sl_perm ?_ (perm8 (D := Dh7))
      repeat (first | refine run_S ?_ | refine w_box (fun _ => ?_) | refine w_al (fun _ => ?_))
      rw [show za / zb * zb + za % zb = za by have := Int.emod_add_mul_ediv za zb; rw [Int.mul_comm]; omega] at h6
      refine sl_call rfl rfl rfl rfl rfl rfl (fun _ => Same_ct (h6.at sb) (h7.at sb)) ?_
      rintro v U' D hU ⟨rfl, rfl, rfl⟩
      repeat (first | refine run_S ?_ | refine w_box (fun _ => ?_) | refine w_al (fun _ => ?_))
      refine st_draw [0, 1, 3, 2, 4, 5, 6, 7, 8, 9, 10] sym (by kernel_rfl) ?_
      repeat (first | refine run_S ?_ | refine w_box (fun _ => ?_) | refine w_al (fun _ => ?_))
      refine sl_call rfl rfl rfl rfl rfl rfl (fun _ => Mul_ct (ha.up hUc sb) (by omega) (hb.up hUc sb) (by omega)) ?_
      rintro v U' Dh8 hU ⟨xh8, rfl, h8, rfl⟩
      refine sl_perm ?_ (perm8 (D := Dh8))
      repeat (first | refine run_S ?_ | refine w_box (fun _ => ?_) | refine w_al (fun _ => ?_))
      refine sl_call rfl rfl rfl rfl rfl rfl (fun _ => Exact_ct (h8.at sb).rep (h8.le (sa.mul sbb) (by decide)) (hb.up hUc sb) (by omega)) ?_
      rintro v U3 D9 hU ⟨x9, e9, rfl, -, -, hx9, -⟩
      obtain ⟨rfl, h9⟩ := hx9 hu (Int.mul_emod_left ..)
      rw [Int.mul_ediv_cancel _ hu] at h9
      replace hUc := hUc.trans hU
      refine sl_perm ?_ (perm8 (D := D9))
      repeat (first | refine run_S ?_ | refine w_box (fun _ => ?_) | refine w_al (fun _ => ?_))
      refine st_draw [0, 1, 2, 3, 4, 5, 6, 7, 8] sym (by kernel_rfl) ?_
      repeat (first | refine run_S ?_ | refine w_box (fun _ => ?_) | refine w_al (fun _ => ?_))
      refine sl_gdec rfl rfl (fun h => absurd rfl h) (fun _ => ?_)
      repeat (first | refine run_S ?_ | refine w_box (fun _ => ?_) | refine w_al (fun _ => ?_))
      refine sl_call rfl rfl rfl rfl rfl rfl (fun _ => Normal_ct (ha.up hUc sb) (by omega)) ?_
      rintro v U' Dh10 hU ⟨xh10, rfl, h10, rfl⟩
      refine sl_perm ?_ (perm9 (D := Dh10))
      repeat (first | refine run_S ?_ | refine w_box (fun _ => ?_) | refine w_al (fun _ => ?_))
      refine sl_call rfl rfl rfl rfl rfl rfl (fun _ => Same_ct (h9.at sb) (h10.at sb)) ?_
      rintro v U' D hU ⟨rfl, rfl, rfl⟩
      repeat (first | refine run_S ?_ | refine w_box (fun _ => ?_) | refine w_al (fun _ => ?_))
      refine sl_call rfl rfl rfl rfl rfl rfl (fun _ => rSign_ct (hr2.at sb).rep (hr2.le (sbb.mod hu za) (by decide))) ?_
      rintro v U' D hU ⟨rfl, rfl, rfl⟩
      repeat (first | refine run_S ?_ | refine w_box (fun _ => ?_) | refine w_al (fun _ => ?_))
      refine st_ne rfl (fun h => ?_) (fun h => ?_)
      · obtain ⟨rfl, rfl, rfl⟩ := hx0 hu (fun h0 => h (by rw [h0]; rfl))
        repeat (first | refine run_S ?_ | refine w_box (fun _ => ?_) | refine w_al (fun _ => ?_))
        refine sl_gdec rfl rfl (fun _ => ?_) (fun h => absurd rfl h)
        repeat (first | refine run_S ?_ | refine w_box (fun _ => ?_) | refine w_al (fun _ => ?_))
        refine sl_bslice (vs := [zeroIV].map IV.v) sym rfl rfl rfl rfl rfl rfl (by intro v hv; obtain ⟨y, _, rfl⟩ := List.mem_map.1 hv; rfl) rfl rfl rfl rfl rfl rfl (fun b2 => ?_)
        repeat (first | refine run_S ?_ | refine w_box (fun _ => ?_) | refine w_al (fun _ => ?_))
        refine sl_call rfl rfl rfl rfl rfl rfl (fun _ => zero_ct (ivs_head.app _) rfl (by decide) (by simp)) ?_
        rintro v U' D hU ⟨rfl, rfl, rfl⟩
        repeat (first | refine run_S ?_ | refine w_box (fun _ => ?_) | refine w_al (fun _ => ?_))
        exact sk_ret [] sym rfl (.cons (.tmp rfl) .nil) hUc sb (.inl rfl) rfl
      · obtain ⟨rfl, hx⟩ := hx1 hu (Int.sign_eq_zero_iff_zero.1 h)
        repeat (first | refine run_S ?_ | refine w_box (fun _ => ?_) | refine w_al (fun _ => ?_))
        repeat (first | refine run_S ?_ | refine w_box (fun _ => ?_) | refine w_al (fun _ => ?_))
        refine sl_gdec rfl rfl (fun _ => ?_) (fun h => absurd rfl h)
        repeat (first | refine run_S ?_ | refine w_box (fun _ => ?_) | refine w_al (fun _ => ?_))
        refine sl_call rfl rfl rfl rfl rfl rfl (fun _ => Same_ct (hx.at sb) (hq2.at sb)) ?_
        rintro v U' D hU ⟨rfl, rfl, rfl⟩
        repeat (first | refine run_S ?_ | refine w_box (fun _ => ?_) | refine w_al (fun _ => ?_))
        exact sk_ret [] sym rfl (.cons (.tmp rfl) .nil) hUc sb (.inl rfl) rfl
  · repeat (first | refine run_S ?_ | refine w_box (fun _ => ?_) | refine w_al (fun _ => ?_))
    exact sk_ret [] sym rfl (.cons (.tmp rfl) .nil) hUc sb (.inl rfl) rfl

end Go.Proofs.Ytcakainebimmdaa
