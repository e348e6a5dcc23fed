/- The law on the greatest common divisor and its cofactors. -/
import Derived.Test.YtcakainebimmdaaM10
namespace Go.Proofs.Ytcakainebimmdaa
open Go.Hp
variable {G : World} {U : UH} {M : MH}

theorem sz_factor {t w : Int} {k : Nat} (h : Sz (t * w) k) (hw : w ≠ 0) : Sz t k := by
  unfold Sz at *
  rw [Int.natAbs_mul] at h
  exact Nat.lt_of_le_of_lt (Nat.le_mul_of_pos_right _ (Int.natAbs_pos.2 hw)) h

theorem BigintBezout_ct {a b : IV} {za zb : Int} (ha : a.rep U M za) (hb : b.rep U M zb) :
    Ct Try.prog 10 [a.v, b.v] G U M fun v _ _ => v = .bool true := by
  refine ct_of_st Try.func10 rfl rfl rfl rfl ?_
  repeat (first | refine run_S ?_ | refine w_box (fun _ => ?_) | refine w_al (fun _ => ?_))
  refine sl_call rfl rfl rfl rfl rfl rfl (fun _ => awake_ct) ?_
  rintro v U1 D hUc ⟨rfl, -, rfl⟩
  repeat (first | refine run_S ?_ | refine w_box (fun _ => ?_) | refine w_al (fun _ => ?_))
  refine sl_bslice (vs := [a, b].map IV.v) sym rfl rfl rfl rfl rfl rfl (by intro v hv; obtain ⟨y, _, rfl⟩ := List.mem_map.1 hv; rfl) rfl rfl rfl rfl rfl rfl (fun bo => ?_)
  repeat (first | refine run_S ?_ | refine w_box (fun _ => ?_) | refine w_al (fun _ => ?_))
  refine sl_call rfl rfl rfl rfl rfl rfl (fun _ => long_ct (ivs_head.app _) rfl (by decide)) ?_
  rintro v U' D hU ⟨r, rfl, hr, rfl, rfl⟩
  repeat (first | refine run_S ?_ | refine w_box (fun _ => ?_) | refine w_al (fun _ => ?_))
  cases r
  · have hr := hr rfl
    have hna : a.n ≤ 40 := hr a (by simp)
    have hnb : b.n ≤ 40 := hr b (by simp)
    have sa := ha.sz hna
    have sbb := hb.sz hnb
    have sg := sa.gcd sbb
    repeat (first | refine run_S ?_ | refine w_box (fun _ => ?_) | refine w_al (fun _ => ?_))
    refine sl_call rfl rfl rfl rfl rfl rfl (fun _ => rGcd_ct (ha.up hUc sb) (by omega) (hb.up hUc sb) (by omega)) ?_
    rintro v U' Dh1 hU ⟨xh1, rfl, h1, rfl⟩
    refine sl_perm ?_ (perm3 (D := Dh1))
    repeat (first | refine run_S ?_ | refine w_box (fun _ => ?_) | refine w_al (fun _ => ?_))
    refine sl_call rfl rfl rfl rfl rfl rfl (fun _ => Xgcd_ct (ha.up hUc sb) (by omega) (hb.up hUc sb) (by omega)) ?_
    rintro v U2 D hU ⟨g, u, t, zu, zt, Dg, Du, Dt, rfl, rfl, hg, hu, ht, hz0, hz1, -⟩
    replace hUc := hUc.trans hU
    refine sl_perm ?_ (perm4 (D := Dt ++ (Du ++ Dg)))
    have hE : zu * za + zt * zb = (Int.gcd za zb : Int) := by
      by_cases hb0 : zb = 0
      · obtain ⟨rfl, rfl, -⟩ := hz0 hb0
        rw [hb0, Int.gcd_zero_right]
        rcases Int.lt_trichotomy za 0 with h | h | h
        · rw [Int.sign_eq_neg_one_of_neg h]; omega
        · rw [h]; decide
        · rw [Int.sign_eq_one_of_pos h]; omega
      · exact (hz1 hb0).1
    have su : Sz zu 40 := by
      by_cases hb0 : zb = 0
      · obtain ⟨rfl, -, -⟩ := hz0 hb0
        unfold Sz
        have : za.sign.natAbs ≤ 1 := by rw [Int.natAbs_sign]; split <;> omega
        exact Nat.lt_of_le_of_lt this (by decide)
      · obtain ⟨-, k, rfl⟩ := hz1 hb0
        refine (sbb.div _).mod (fun e => ?_) k
        have := Int.ediv_mul_cancel (Int.gcd_dvd_right za zb)
        rw [e] at this; omega
    have st : Sz zt 81 := by
      by_cases hb0 : zb = 0
      · obtain ⟨-, rfl, -⟩ := hz0 hb0
        unfold Sz
        exact Nat.pow_pos (by decide)
      · refine sz_factor (w := zb) ?_ hb0
        rw [show zt * zb = (Int.gcd za zb : Int) - zu * za by omega]
        exact (sg.mono (by decide)).sub (su.mul sa)
    repeat (first | refine run_S ?_ | refine w_box (fun _ => ?_) | refine w_al (fun _ => ?_))
    refine st_draw [0, 1, 3, 2, 4, 5, 6, 7, 8, 9, 10, 11] sym (by kernel_rfl) ?_
    repeat (first | refine run_S ?_ | refine w_box (fun _ => ?_) | refine w_al (fun _ => ?_))
    refine sl_call rfl rfl rfl rfl rfl rfl (fun _ => Gcd_ct (ha.up hUc sb) (by omega) (hb.up hUc sb) (by omega)) ?_
    rintro v Uh2 Dh2 hU ⟨xh2, rfl, h2, -⟩
    replace hUc := hUc.trans hU
    refine sl_perm ?_ (perm7 (D := Dh2))
    repeat (first | refine run_S ?_ | refine w_box (fun _ => ?_) | refine w_al (fun _ => ?_))
    refine sl_call rfl rfl rfl rfl rfl rfl (fun _ => Same_ct (h2.at sb) (h1.at sb)) ?_
    rintro v U' D hU ⟨rfl, rfl, rfl⟩
    repeat (first | refine run_S ?_ | refine w_box (fun _ => ?_) | refine w_al (fun _ => ?_))
    refine sl_call rfl rfl rfl rfl rfl rfl (fun _ => Same_ct (hg.at sb) (h1.at sb)) ?_
    rintro v U' D hU ⟨rfl, rfl, rfl⟩
    repeat (first | refine run_S ?_ | refine w_box (fun _ => ?_) | refine w_al (fun _ => ?_))
    refine st_draw [0, 1, 3, 4, 7, 2, 5, 6, 8, 9, 10, 11, 12, 13, 14, 15, 16, 17, 18, 19, 20, 21, 22, 23] sym (by kernel_rfl) ?_
    repeat (first | refine run_S ?_ | refine w_box (fun _ => ?_) | refine w_al (fun _ => ?_))
    refine sl_call rfl rfl rfl rfl rfl rfl (fun _ => rMul_ct (hu.at sb).rep (hu.le (su) (by decide)) (ha.up hUc sb) (by omega)) ?_
    rintro v U' Dh3 hU ⟨xh3, rfl, h3, rfl⟩
    refine sl_perm ?_ (perm7 (D := Dh3))
    repeat (first | refine run_S ?_ | refine w_box (fun _ => ?_) | refine w_al (fun _ => ?_))
    refine sl_call rfl rfl rfl rfl rfl rfl (fun _ => rMul_ct (ht.at sb).rep (ht.le (st) (by decide)) (hb.up hUc sb) (by omega)) ?_
    rintro v U' Dh4 hU ⟨xh4, rfl, h4, rfl⟩
    refine sl_perm ?_ (perm7 (D := Dh4))
    repeat (first | refine run_S ?_ | refine w_box (fun _ => ?_) | refine w_al (fun _ => ?_))
    refine sl_call rfl rfl rfl rfl rfl rfl (fun _ => rAdd_ct (h3.at sb).rep (h3.le (su.mul sa) (by decide)) (h4.at sb).rep (h4.le (st.mul sbb) (by decide))) ?_
    rintro v U' Dh5 hU ⟨xh5, rfl, h5, rfl⟩
    refine sl_perm ?_ (perm7 (D := Dh5))
    repeat (first | refine run_S ?_ | refine w_box (fun _ => ?_) | refine w_al (fun _ => ?_))
    rw [hE] at h5
    refine sl_call rfl rfl rfl rfl rfl rfl (fun _ => Same_ct (h5.at sb) (h1.at sb)) ?_
    rintro v U' D hU ⟨rfl, rfl, rfl⟩
    repeat (first | refine run_S ?_ | refine w_box (fun _ => ?_) | refine w_al (fun _ => ?_))
    refine sl_call rfl rfl rfl rfl rfl rfl (fun _ => Norm_ct (hu.at sb).rep (hu.le (su) (by decide))) ?_
    rintro v U' Dh6 hU ⟨xh6, rfl, h6, rfl⟩
    refine sl_perm ?_ (perm7 (D := Dh6))
    repeat (first | refine run_S ?_ | refine w_box (fun _ => ?_) | refine w_al (fun _ => ?_))
    refine sl_call rfl rfl rfl rfl rfl rfl (fun _ => Same_ct (hu.at sb) (h6.at sb)) ?_
    rintro v U' D hU ⟨rfl, rfl, rfl⟩
    repeat (first | refine run_S ?_ | refine w_box (fun _ => ?_) | refine w_al (fun _ => ?_))
    refine sl_call rfl rfl rfl rfl rfl rfl (fun _ => Norm_ct (ht.at sb).rep (ht.le (st) (by decide))) ?_
    rintro v U' Dh7 hU ⟨xh7, rfl, h7, rfl⟩
    refine sl_perm ?_ (perm7 (D := Dh7))
    repeat (first | refine run_S ?_ | refine w_box (fun _ => ?_) | refine w_al (fun _ => ?_))
    refine sl_call rfl rfl rfl rfl rfl rfl (fun _ => Same_ct (ht.at sb) (h7.at sb)) ?_
    rintro v U' D hU ⟨rfl, rfl, rfl⟩
    repeat (first | refine run_S ?_ | refine w_box (fun _ => ?_) | refine w_al (fun _ => ?_))
    refine sl_call rfl rfl rfl rfl rfl rfl (fun _ => rSign_ct (hb.up hUc sb) (by omega)) ?_
    rintro v U' D hU ⟨rfl, rfl, rfl⟩
    repeat (first | refine run_S ?_ | refine w_box (fun _ => ?_) | refine w_al (fun _ => ?_))
    by_cases hb0 : zb = 0
    · refine st_eq rfl (fun _ => ?_) (fun h => absurd (by rw [hb0]; rfl) h)
      obtain ⟨rfl, rfl, rfl⟩ := hz0 hb0
      repeat (first | refine run_S ?_ | refine w_box (fun _ => ?_) | refine w_al (fun _ => ?_))
      refine st_draw [0, 1, 2, 3, 4, 5, 6, 7, 8, 9, 10] sym (by kernel_rfl) ?_
      repeat (first | refine run_S ?_ | refine w_box (fun _ => ?_) | refine w_al (fun _ => ?_))
      refine sl_call rfl rfl rfl rfl rfl rfl (fun _ => rSign_ct (ha.up hUc sb) (by omega)) ?_
      rintro v U' D hU ⟨rfl, rfl, rfl⟩
      repeat (first | refine run_S ?_ | refine w_box (fun _ => ?_) | refine w_al (fun _ => ?_))
      refine sl_call rfl rfl rfl rfl rfl rfl (fun _ => rOf_ct (z := za.sign) natAbs_sign_sz.1 natAbs_sign_sz.2) ?_
      rintro v U' Dh8 hU ⟨xh8, rfl, h8, rfl⟩
      refine sl_perm ?_ (perm7 (D := Dh8))
      repeat (first | refine run_S ?_ | refine w_box (fun _ => ?_) | refine w_al (fun _ => ?_))
      refine sl_call rfl rfl rfl rfl rfl rfl (fun _ => Same_ct (hu.at sb) (h8.at sb)) ?_
      rintro v U' D hU ⟨rfl, rfl, rfl⟩
      repeat (first | refine run_S ?_ | refine w_box (fun _ => ?_) | refine w_al (fun _ => ?_))
      refine sl_bslice (vs := [zeroIV].map IV.v) sym rfl rfl rfl rfl rfl rfl (by intro v hv; obtain ⟨y, _, rfl⟩ := List.mem_map.1 hv; rfl) rfl rfl rfl rfl rfl rfl (fun b2 => ?_)
      repeat (first | refine run_S ?_ | refine w_box (fun _ => ?_) | refine w_al (fun _ => ?_))
      refine sl_call rfl rfl rfl rfl rfl rfl (fun _ => zero_ct (ivs_head.app _) rfl (by decide) (by simp)) ?_
      rintro v U' D hU ⟨rfl, rfl, rfl⟩
      repeat (first | refine run_S ?_ | refine w_box (fun _ => ?_) | refine w_al (fun _ => ?_))
      exact sk_ret [] sym rfl (.cons (.tmp rfl) .nil) hUc sb (.inl rfl) rfl
    · refine st_eq rfl (fun h => absurd (Int.sign_eq_zero_iff_zero.1 h) hb0) (fun _ => ?_)
      obtain ⟨-, k, rfl⟩ := hz1 hb0
      have hg0 : (Int.gcd za zb : Int) ≠ 0 := fun e => hb0 (Int.gcd_eq_zero_iff.1 (Int.ofNat_eq_zero.1 e)).2
      have hp0 : zb / (Int.gcd za zb : Int) ≠ 0 := fun e => by
        have := Int.ediv_mul_cancel (Int.gcd_dvd_right za zb)
        rw [e] at this; omega
      repeat (first | refine run_S ?_ | refine w_box (fun _ => ?_) | refine w_al (fun _ => ?_))
      refine st_draw [0, 2, 1, 3, 4, 5] sym (by kernel_rfl) ?_
      repeat (first | refine run_S ?_ | refine w_box (fun _ => ?_) | refine w_al (fun _ => ?_))
      refine sl_call rfl rfl rfl rfl rfl rfl (fun _ => rAbs_ct (hb.up hUc sb) (by omega)) ?_
      rintro v U' Dh8 hU ⟨xh8, rfl, h8, rfl⟩
      refine sl_perm ?_ (perm7 (D := Dh8))
      repeat (first | refine run_S ?_ | refine w_box (fun _ => ?_) | refine w_al (fun _ => ?_))
      refine sl_call rfl rfl rfl rfl rfl rfl (fun _ => rDivided_ct (h8.at sb).rep (h8.le (sbb.abs) (by decide)) (h1.at sb).rep (h1.le (sg) (by decide)) hg0) ?_
      rintro v U' Dh9 hU ⟨xh9, rfl, h9, rfl⟩
      refine sl_perm ?_ (perm7 (D := Dh9))
      repeat (first | refine run_S ?_ | refine w_box (fun _ => ?_) | refine w_al (fun _ => ?_))
      refine sl_call rfl rfl rfl rfl rfl rfl (fun _ => rSign_ct (hu.at sb).rep (hu.le (su) (by decide))) ?_
      rintro v U' D hU ⟨rfl, rfl, rfl⟩
      repeat (first | refine run_S ?_ | refine w_box (fun _ => ?_) | refine w_al (fun _ => ?_))
      have hn := Int.emod_nonneg k hp0
      have hlt := Int.emod_lt k hp0
      have hbd : (zb.natAbs : Int) / (Int.gcd za zb : Int) = ((zb / (Int.gcd za zb : Int)).natAbs : Int) := by
        rw [Int.natAbs_ediv_of_dvd (Int.gcd_dvd_right za zb)]; rfl
      rw [hbd] at h9
      refine sl_gdec rfl rfl (fun _ => ?_) (fun h => absurd (Int.sign_nonneg_iff.2 hn) h)
      repeat (first | refine run_S ?_ | refine w_box (fun _ => ?_) | refine w_al (fun _ => ?_))
      refine sl_call rfl rfl rfl rfl rfl rfl (fun _ => rCmp_ct (hu.at sb).rep (hu.le (su) (by decide)) (h9.at sb).rep (h9.le ((sbb.div _).abs) (by decide))) ?_
      rintro v U' D hU ⟨rfl, rfl, rfl⟩
      repeat (first | refine run_S ?_ | refine w_box (fun _ => ?_) | refine w_al (fun _ => ?_))
      exact sk_ret [] sym rfl (.cons (.tmp rfl) .nil) hUc sb (.inl rfl) (by rw [dec_eq, decide_eq_true (by rw [Int.sign_eq_neg_one_of_neg (by omega)]; decide)]; rfl)
  · repeat (first | refine run_S ?_ | refine w_box (fun _ => ?_) | refine w_al (fun _ => ?_))
    exact sk_ret [] sym rfl (.cons (.tmp rfl) .nil) hUc sb (.inl rfl) rfl

end Go.Proofs.Ytcakainebimmdaa
