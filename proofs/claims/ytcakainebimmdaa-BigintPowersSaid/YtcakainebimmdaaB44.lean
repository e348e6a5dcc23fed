/- The law on powers. -/
import Derived.Test.YtcakainebimmdaaB38
import Derived.Test.YtcakainebimmdaaM8
namespace Go.Proofs.Ytcakainebimmdaa
open Go.Hp
variable {G : World} {U : UH} {M : MH}

theorem BigintPowers_ct {a m : IV} {za zm n : Int} (ha : a.rep U M za) (h0 : -9223372036854775808 ≤ n) (h1 : n ≤ 9223372036854775807) (hm : m.rep U M zm) :
    Ct Try.prog 12 [a.v, .int .i64 n, m.v] G U M fun v _ _ => v = .bool true := by
  refine ct_of_st Try.func12 rfl rfl rfl rfl ?_
  repeat (first | refine run_S ?_ | refine w_box (fun _ => ?_) | refine w_al (fun _ => ?_))
  refine sl_call rfl rfl rfl rfl rfl rfl (fun _ => awake_ct) ?_
  rintro v U1 D hUc ⟨rfl, -, rfl⟩
  repeat (first | refine run_S ?_ | refine w_box (fun _ => ?_) | refine w_al (fun _ => ?_))
  refine sl_bslice (vs := [a, m].map IV.v) sym rfl rfl rfl rfl rfl rfl (by intro v hv; obtain ⟨y, _, rfl⟩ := List.mem_map.1 hv; rfl) rfl rfl rfl rfl rfl rfl (fun bo => ?_)
  repeat (first | refine run_S ?_ | refine w_box (fun _ => ?_) | refine w_al (fun _ => ?_))
  refine sl_call rfl rfl rfl rfl rfl rfl (fun _ => long_ct (ivs_head.app _) rfl (by decide)) ?_
  rintro v U' D hU ⟨r, rfl, hr, rfl, rfl⟩
  repeat (first | refine run_S ?_ | refine w_box (fun _ => ?_) | refine w_al (fun _ => ?_))
  cases r
  · have hr := hr rfl
    have hna : a.n ≤ 40 := hr a (by simp)
    have hnm : m.n ≤ 40 := hr m (by simp)
    have sa := ha.sz hna
    have sm := hm.sz hnm
    have hbz : blen za.natAbs ≤ 32 * a.n := by
      obtain ⟨l, hd, rfl⟩ := ha
      rw [sg_natAbs, ← hd.len]
      exact blen_val_le hd.bd
    repeat (first | refine run_S ?_ | refine w_box (fun _ => ?_) | refine w_al (fun _ => ?_))
    refine sl_call rfl rfl rfl rfl rfl rfl (fun _ => Pow_ct (ha.up hUc sb) (by omega) h0 h1) ?_
    rintro v U' D1 hU ⟨p, e, rfl, hP1, hP2, hP3, rfl⟩
    refine sl_perm ?_ (perm3 (D := D1))
    repeat (first | refine run_S ?_ | refine w_box (fun _ => ?_) | refine w_al (fun _ => ?_))
    refine st_dec rfl (fun hneg => ?_) (fun hneg => ?_)
    · obtain ⟨rfl, rfl, rfl⟩ := hP1 hneg
      repeat (first | refine run_S ?_ | refine w_box (fun _ => ?_) | refine w_al (fun _ => ?_))
      refine sl_gdec rfl rfl (fun _ => ?_) (fun h => absurd rfl h)
      repeat (first | refine run_S ?_ | refine w_box (fun _ => ?_) | refine w_al (fun _ => ?_))
      refine sl_bslice (vs := [zeroIV].map IV.v) sym rfl rfl rfl rfl rfl rfl (by intro v hv; obtain ⟨y, _, rfl⟩ := List.mem_map.1 hv; rfl) rfl rfl rfl rfl rfl rfl (fun b2 => ?_)
      repeat (first | refine run_S ?_ | refine w_box (fun _ => ?_) | refine w_al (fun _ => ?_))
      refine sl_call rfl rfl rfl rfl rfl rfl (fun _ => zero_ct (ivs_head.app _) rfl (by decide) (by simp)) ?_
      rintro v U' D hU ⟨rfl, rfl, rfl⟩
      repeat (first | refine run_S ?_ | refine w_box (fun _ => ?_) | refine w_al (fun _ => ?_))
      exact sk_ret [] sym rfl (.cons (.tmp rfl) .nil) hUc sb (.inl rfl) rfl
    obtain ⟨k, rfl⟩ : ∃ k : Nat, n = (k : Int) := ⟨n.toNat, by omega⟩
    rw [Int.toNat_natCast] at hP2 hP3
    replace hP2 := hP2 (by omega)
    replace hP3 := hP3 (by omega)
    obtain ⟨km, hkm⟩ : ∃ km, km = 2 + k % 2 := ⟨_, rfl⟩
    have w1 : IntKind.i64.wrap (2 + (k : Int).tmod 2) = (km : Int) := by
      rw [Int.tmod_eq_emod_of_nonneg (by omega), wrap_in (by omega) (by simp only [kmax]; omega)]; omega
    repeat (first | refine run_S ?_ | refine w_box (fun _ => ?_) | refine w_al (fun _ => ?_))
    refine sl_call rfl rfl rfl rfl rfl rfl (fun _ => rTooGreat_ct (m := k) (ha.up hUc sb) (by omega)) ?_
    rintro v U' D hU ⟨rfl, rfl, rfl⟩
    by_cases hT : 1 < blen za.natAbs ∧ 1048576 / blen za.natAbs < k
    · obtain ⟨rfl, rfl, rfl⟩ := hP2 hT.1 hT.2
      rw [decide_eq_true hT]
      repeat (first | refine run_S ?_ | refine w_box (fun _ => ?_) | refine w_al (fun _ => ?_))
      refine sl_gdec rfl rfl (fun _ => ?_) (fun h => absurd rfl h)
      repeat (first | refine run_S ?_ | refine w_box (fun _ => ?_) | refine w_al (fun _ => ?_))
      refine sl_bslice (vs := [zeroIV].map IV.v) sym rfl rfl rfl rfl rfl rfl (by intro v hv; obtain ⟨y, _, rfl⟩ := List.mem_map.1 hv; rfl) rfl rfl rfl rfl rfl rfl (fun b2 => ?_)
      repeat (first | refine run_S ?_ | refine w_box (fun _ => ?_) | refine w_al (fun _ => ?_))
      refine sl_call rfl rfl rfl rfl rfl rfl (fun _ => zero_ct (ivs_head.app _) rfl (by decide) (by simp)) ?_
      rintro v U' D hU ⟨rfl, rfl, rfl⟩
      repeat (first | refine run_S ?_ | refine w_box (fun _ => ?_) | refine w_al (fun _ => ?_))
      exact sk_ret [] sym rfl (.cons (.tmp rfl) .nil) hUc sb (.inl rfl) rfl
    obtain ⟨rfl, hp⟩ := hP3 hT
    rw [decide_eq_false hT]
    repeat (first | refine run_S ?_ | refine w_box (fun _ => ?_) | refine w_al (fun _ => ?_))
    refine sl_gdec rfl rfl (fun hk60 => ?_) (fun hk60 => ?_)
    · have hk2 : 2 ≤ k := by omega
      repeat (first | refine run_S ?_ | refine w_box (fun _ => ?_) | refine w_al (fun _ => ?_))
      refine st_draw [0, 1, 2, 3, 4, 5, 6, 7, 8, 9, 10, 11, 12, 13, 14, 15, 16] sym (by kernel_rfl) ?_
      repeat (first | refine run_S ?_ | refine w_box (fun _ => ?_) | refine w_al (fun _ => ?_))
      refine sl_gdec rfl rfl (fun _ => ?_) (fun h => absurd rfl h)
      repeat (first | refine run_S ?_ | refine w_box (fun _ => ?_) | refine w_al (fun _ => ?_))
      refine sl_call rfl rfl rfl rfl rfl rfl (fun _ => rBits_ct (ha.up hUc sb) (by omega)) ?_
      rintro v U' D hU ⟨rfl, rfl, rfl⟩
      repeat (first | refine run_S ?_ | refine w_box (fun _ => ?_) | refine w_al (fun _ => ?_))
      refine sl_gdec rfl rfl (fun hb1 => ?_) (fun hb1 => ?_)
      · repeat (first | refine run_S ?_ | refine w_box (fun _ => ?_) | refine w_al (fun _ => ?_))
        exact sk_ret [] sym rfl (.cons (.tmp rfl) .nil) hUc sb (.inl rfl) rfl
      · repeat (first | refine run_S ?_ | refine w_box (fun _ => ?_) | refine w_al (fun _ => ?_))
        rw [w1]
        have hB1 : blen za.natAbs ≤ 1 := by omega
        refine sl_call rfl rfl rfl rfl rfl rfl (fun _ => rRaised_ct (m := km) (K := 1) (ha.up hUc sb) (by omega) (by omega) (by have := Nat.mul_le_mul_right km hB1; omega) (by decide)) ?_
        rintro v U' Dh9 hU ⟨xh9, rfl, h9, rfl⟩
        refine sl_perm ?_ (perm4 (D := Dh9))
        repeat (first | refine run_S ?_ | refine w_box (fun _ => ?_) | refine w_al (fun _ => ?_))
        rw [hkm, ← pow_short hB1 k (by omega)] at h9
        refine sl_call rfl rfl rfl rfl rfl rfl (fun _ => Same_ct (hp.at sb) (h9.at sb)) ?_
        rintro v U' D hU ⟨rfl, rfl, rfl⟩
        repeat (first | refine run_S ?_ | refine w_box (fun _ => ?_) | refine w_al (fun _ => ?_))
        exact sk_ret [] sym rfl (.cons (.tmp rfl) .nil) hUc sb (.inl rfl) rfl
    have hka : k * a.n ≤ 60 * 40 := Nat.mul_le_mul (by omega) hna
    repeat (first | refine run_S ?_ | refine w_box (fun _ => ?_) | refine w_al (fun _ => ?_))
    refine st_dec rfl (fun hk3 => ?_) (fun hk3 => ?_)
    · have hk2 : 2 ≤ k := by
        rcases Nat.lt_or_ge k 2 with h | h
        · have h4 : k * a.n ≤ 1 * 40 := Nat.mul_le_mul (by omega) hna
          rw [← Int.natCast_mul] at hk3
          omega
        · exact h
      repeat (first | refine run_S ?_ | refine w_box (fun _ => ?_) | refine w_al (fun _ => ?_))
      refine st_draw [0, 1, 2, 3, 4, 5, 6, 7, 8, 9, 10, 11, 12, 13, 14, 15, 16] sym (by kernel_rfl) ?_
      repeat (first | refine run_S ?_ | refine w_box (fun _ => ?_) | refine w_al (fun _ => ?_))
      refine sl_gdec rfl rfl (fun _ => ?_) (fun h => absurd rfl h)
      repeat (first | refine run_S ?_ | refine w_box (fun _ => ?_) | refine w_al (fun _ => ?_))
      refine sl_call rfl rfl rfl rfl rfl rfl (fun _ => rBits_ct (ha.up hUc sb) (by omega)) ?_
      rintro v U' D hU ⟨rfl, rfl, rfl⟩
      repeat (first | refine run_S ?_ | refine w_box (fun _ => ?_) | refine w_al (fun _ => ?_))
      refine sl_gdec rfl rfl (fun hb1 => ?_) (fun hb1 => ?_)
      · repeat (first | refine run_S ?_ | refine w_box (fun _ => ?_) | refine w_al (fun _ => ?_))
        exact sk_ret [] sym rfl (.cons (.tmp rfl) .nil) hUc sb (.inl rfl) rfl
      · repeat (first | refine run_S ?_ | refine w_box (fun _ => ?_) | refine w_al (fun _ => ?_))
        rw [w1]
        have hB1 : blen za.natAbs ≤ 1 := by omega
        refine sl_call rfl rfl rfl rfl rfl rfl (fun _ => rRaised_ct (m := km) (K := 1) (ha.up hUc sb) (by omega) (by omega) (by have := Nat.mul_le_mul_right km hB1; omega) (by decide)) ?_
        rintro v U' Dh9 hU ⟨xh9, rfl, h9, rfl⟩
        refine sl_perm ?_ (perm4 (D := Dh9))
        repeat (first | refine run_S ?_ | refine w_box (fun _ => ?_) | refine w_al (fun _ => ?_))
        rw [hkm, ← pow_short hB1 k (by omega)] at h9
        refine sl_call rfl rfl rfl rfl rfl rfl (fun _ => Same_ct (hp.at sb) (h9.at sb)) ?_
        rintro v U' D hU ⟨rfl, rfl, rfl⟩
        repeat (first | refine run_S ?_ | refine w_box (fun _ => ?_) | refine w_al (fun _ => ?_))
        exact sk_ret [] sym rfl (.cons (.tmp rfl) .nil) hUc sb (.inl rfl) rfl
    rw [← Int.natCast_mul] at hk3
    have hBk : blen za.natAbs * k ≤ 32 * 300 := by
      have h2 := Nat.mul_le_mul_right k hbz
      have h3 : 32 * a.n * k = 32 * (k * a.n) := by rw [Nat.mul_assoc, Nat.mul_comm a.n k]
      omega
    have sp := sz_pow (K := 300) rfl (Nat.le_refl k) hBk
    repeat (first | refine run_S ?_ | refine w_box (fun _ => ?_) | refine w_al (fun _ => ?_))
    refine st_draw [0, 1, 2, 3, 4, 5, 6, 7, 8, 9] sym (by kernel_rfl) ?_
    repeat (first | refine run_S ?_ | refine w_box (fun _ => ?_) | refine w_al (fun _ => ?_))
    refine sl_gdec rfl rfl (fun h => absurd rfl h) (fun _ => ?_)
    repeat (first | refine run_S ?_ | refine w_box (fun _ => ?_) | refine w_al (fun _ => ?_))
    refine sl_call rfl rfl rfl rfl rfl rfl (fun _ => rRaised_ct (m := k) (K := 300) (ha.up hUc sb) (by omega) (by omega) hBk (by decide)) ?_
    rintro v U' Dh9 hU ⟨xh9, rfl, h9, rfl⟩
    refine sl_perm ?_ (perm4 (D := Dh9))
    repeat (first | refine run_S ?_ | refine w_box (fun _ => ?_) | refine w_al (fun _ => ?_))
    refine sl_call rfl rfl rfl rfl rfl rfl (fun _ => Same_ct (hp.at sb) (h9.at sb)) ?_
    rintro v U' D hU ⟨rfl, rfl, rfl⟩
    repeat (first | refine run_S ?_ | refine w_box (fun _ => ?_) | refine w_al (fun _ => ?_))
    refine st_draw [0, 1, 3, 2, 4, 5, 6, 7, 8, 9, 10] sym (by kernel_rfl) ?_
    repeat (first | refine run_S ?_ | refine w_box (fun _ => ?_) | refine w_al (fun _ => ?_))
    refine sl_call rfl rfl rfl rfl rfl rfl (fun _ => Of_ct h0 h1) ?_
    rintro v U' Dh10 hU ⟨xh10, rfl, h10, rfl⟩
    refine sl_perm ?_ (perm4 (D := Dh10))
    repeat (first | refine run_S ?_ | refine w_box (fun _ => ?_) | refine w_al (fun _ => ?_))
    have sk : Sz (k : Int) 1 := by unfold Sz; omega
    refine sl_call rfl rfl rfl rfl rfl rfl (fun _ => PowMod_ct (ha.up hUc sb) (by omega) (h10.at sb).rep (h10.le (sk) (by decide)) (hm.up hUc sb) (by omega)) ?_
    rintro v U2 D2 hU ⟨x, ev, rfl, hM1, -, hM3, -⟩
    replace hUc := hUc.trans hU
    refine sl_perm ?_ (perm4 (D := D2))
    repeat (first | refine run_S ?_ | refine w_box (fun _ => ?_) | refine w_al (fun _ => ?_))
    refine sl_call rfl rfl rfl rfl rfl rfl (fun _ => rSign_ct (hm.up hUc sb) (by omega)) ?_
    rintro v U' D hU ⟨rfl, rfl, rfl⟩
    repeat (first | refine run_S ?_ | refine w_box (fun _ => ?_) | refine w_al (fun _ => ?_))
    by_cases hu : zm = 0
    · refine st_eq rfl (fun _ => ?_) (fun h => absurd (by rw [hu]; rfl) h)
      obtain ⟨rfl, rfl, rfl⟩ := hM1 hu
      repeat (first | refine run_S ?_ | refine w_box (fun _ => ?_) | refine w_al (fun _ => ?_))
      refine sl_gdec rfl rfl (fun _ => ?_) (fun h => absurd rfl h)
      repeat (first | refine run_S ?_ | refine w_box (fun _ => ?_) | refine w_al (fun _ => ?_))
      refine sl_bslice (vs := [zeroIV].map IV.v) sym rfl rfl rfl rfl rfl rfl (by intro v hv; obtain ⟨y, _, rfl⟩ := List.mem_map.1 hv; rfl) rfl rfl rfl rfl rfl rfl (fun b2 => ?_)
      repeat (first | refine run_S ?_ | refine w_box (fun _ => ?_) | refine w_al (fun _ => ?_))
      refine sl_call rfl rfl rfl rfl rfl rfl (fun _ => zero_ct (ivs_head.app _) rfl (by decide) (by simp)) ?_
      rintro v U' D hU ⟨rfl, rfl, rfl⟩
      repeat (first | refine run_S ?_ | refine w_box (fun _ => ?_) | refine w_al (fun _ => ?_))
      exact sk_ret [] sym rfl (.cons (.tmp rfl) .nil) hUc sb (.inl rfl) rfl
    refine st_eq rfl (fun h => absurd (Int.sign_eq_zero_iff_zero.1 h) hu) (fun _ => ?_)
    obtain ⟨rfl, hx⟩ := hM3 hu (by omega)
    rw [Int.toNat_natCast] at hx
    repeat (first | refine run_S ?_ | refine w_box (fun _ => ?_) | refine w_al (fun _ => ?_))
    refine sl_call rfl rfl rfl rfl rfl rfl (fun _ => rEuclid_ct (hp.at sb).rep (hp.le (sp) (by decide)) (hm.up hUc sb) (by omega) hu) ?_
    rintro v U' D hU ⟨xq3, xr3, Dq3, Dr3, rfl, rfl, q3, r3, rfl⟩
    rw [List.append_assoc]
    refine sl_perm ?_ ((List.Perm.append_left Dr3 (perm5 (D := Dq3))).trans (perm5 (D := Dr3)))
    repeat (first | refine run_S ?_ | refine w_box (fun _ => ?_) | refine w_al (fun _ => ?_))
    refine sl_gdec rfl rfl (fun _ => ?_) (fun h => absurd rfl h)
    repeat (first | refine run_S ?_ | refine w_box (fun _ => ?_) | refine w_al (fun _ => ?_))
    refine sl_call rfl rfl rfl rfl rfl rfl (fun _ => Same_ct (hx.at sb) (r3.at sb)) ?_
    rintro v U' D hU ⟨rfl, rfl, rfl⟩
    repeat (first | refine run_S ?_ | refine w_box (fun _ => ?_) | refine w_al (fun _ => ?_))
    exact sk_ret [] sym rfl (.cons (.tmp rfl) .nil) hUc sb (.inl rfl) rfl
  · repeat (first | refine run_S ?_ | refine w_box (fun _ => ?_) | refine w_al (fun _ => ?_))
    exact sk_ret [] sym rfl (.cons (.tmp rfl) .nil) hUc sb (.inl rfl) rfl

end Go.Proofs.Ytcakainebimmdaa
