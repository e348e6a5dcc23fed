/- The law on powers modulo an integer, for one base, two exponents and one modulus. -/
import Derived.Test.YtcakainebimmdaaB38
import Derived.Test.YtcakainebimmdaaM8
namespace Go.Proofs.Ytcakainebimmdaa
open Go.Hp
variable {G : World} {U : UH} {M : MH}

theorem modular_ct {a n k m : IV} {za zn zk zm : Int} (ha : a.rep U M za) (hn : n.rep U M zn) (hk : k.rep U M zk) (hm : m.rep U M zm) :
    Ct Try.prog 48 [a.v, n.v, k.v, m.v] G U M fun v U' _ => v = .bool true ∧ ULe U U' := by
  have hUc := ULe.refl U
  refine ct_of_st Try.func48 rfl rfl rfl rfl ?_
  repeat (first | refine run_S ?_ | refine w_box (fun _ => ?_) | refine w_al (fun _ => ?_))
  refine sl_gdec rfl rfl (fun g1 => ?_) (fun g1 => ?_)
  · repeat (first | refine run_S ?_ | refine w_box (fun _ => ?_) | refine w_al (fun _ => ?_))
    exact sk_ret [] sym rfl (.cons (.tmp rfl) .nil) hUc sb (.inl rfl) ⟨rfl, hUc⟩
  repeat (first | refine run_S ?_ | refine w_box (fun _ => ?_) | refine w_al (fun _ => ?_))
  refine sl_gdec rfl rfl (fun g2 => ?_) (fun g2 => ?_)
  · repeat (first | refine run_S ?_ | refine w_box (fun _ => ?_) | refine w_al (fun _ => ?_))
    exact sk_ret [] sym rfl (.cons (.tmp rfl) .nil) hUc sb (.inl rfl) ⟨rfl, hUc⟩
  repeat (first | refine run_S ?_ | refine w_box (fun _ => ?_) | refine w_al (fun _ => ?_))
  refine sl_gdec rfl rfl (fun g3 => ?_) (fun g3 => ?_)
  · repeat (first | refine run_S ?_ | refine w_box (fun _ => ?_) | refine w_al (fun _ => ?_))
    exact sk_ret [] sym rfl (.cons (.tmp rfl) .nil) hUc sb (.inl rfl) ⟨rfl, hUc⟩
  repeat (first | refine run_S ?_ | refine w_box (fun _ => ?_) | refine w_al (fun _ => ?_))
  refine st_dec rfl (fun g4 => ?_) (fun g4 => ?_)
  · repeat (first | refine run_S ?_ | refine w_box (fun _ => ?_) | refine w_al (fun _ => ?_))
    exact sk_ret [] sym rfl (.cons (.tmp rfl) .nil) hUc sb (.inl rfl) ⟨rfl, hUc⟩
  have sa := ha.sz (show a.n ≤ 10 by omega)
  have sn := hn.sz (show n.n ≤ 4 by omega)
  have sk := hk.sz (show k.n ≤ 4 by omega)
  have sm := hm.sz (show m.n ≤ 6 by omega)
  repeat (first | refine run_S ?_ | refine w_box (fun _ => ?_) | refine w_al (fun _ => ?_))
  refine sl_call rfl rfl rfl rfl rfl rfl (fun _ => PowMod_ct (ha.up hUc sb) (by omega) (hn.up hUc sb) (by omega) (hm.up hUc sb) (by omega)) ?_
  rintro v Ux Dx hU ⟨xx, ex, rfl, x1, x2, x3, -⟩
  replace hUc := hUc.trans hU
  refine sl_perm ?_ (perm4 (D := Dx))
  repeat (first | refine run_S ?_ | refine w_box (fun _ => ?_) | refine w_al (fun _ => ?_))
  refine sl_call rfl rfl rfl rfl rfl rfl (fun _ => PowMod_ct (ha.up hUc sb) (by omega) (hk.up hUc sb) (by omega) (hm.up hUc sb) (by omega)) ?_
  rintro v Uy Dy hU ⟨xy, ey, rfl, y1, y2, y3, -⟩
  replace hUc := hUc.trans hU
  refine sl_perm ?_ (perm5 (D := Dy))
  repeat (first | refine run_S ?_ | refine w_box (fun _ => ?_) | refine w_al (fun _ => ?_))
  refine st_draw [0, 1, 2, 4, 3, 5, 6, 7, 8, 9, 10, 11] sym (by kernel_rfl) ?_
  repeat (first | refine run_S ?_ | refine w_box (fun _ => ?_) | refine w_al (fun _ => ?_))
  refine sl_call rfl rfl rfl rfl rfl rfl (fun _ => Add_ct (hn.up hUc sb) (by omega) (hk.up hUc sb) (by omega)) ?_
  rintro v U' Dh1 hU ⟨xh1, rfl, h1, rfl⟩
  refine sl_perm ?_ (perm6 (D := Dh1))
  repeat (first | refine run_S ?_ | refine w_box (fun _ => ?_) | refine w_al (fun _ => ?_))
  refine sl_call rfl rfl rfl rfl rfl rfl (fun _ => PowMod_ct (ha.up hUc sb) (by omega) (h1.at sb).rep (h1.le (sn.add sk) (by decide)) (hm.up hUc sb) (by omega)) ?_
  rintro v Uz Dz hU ⟨xz, ez, rfl, z1, z2, z3, -⟩
  replace hUc := hUc.trans hU
  refine sl_perm ?_ (perm6 (D := Dz))
  repeat (first | refine run_S ?_ | refine w_box (fun _ => ?_) | refine w_al (fun _ => ?_))
  refine sl_call rfl rfl rfl rfl rfl rfl (fun _ => rSign_ct (hm.up hUc sb) (by omega)) ?_
  rintro v U' D hU ⟨rfl, rfl, rfl⟩
  repeat (first | refine run_S ?_ | refine w_box (fun _ => ?_) | refine w_al (fun _ => ?_))
  by_cases hu : zm = 0
  · refine st_eq rfl (fun _ => ?_) (fun h => absurd (by rw [hu]; rfl) h)
    obtain ⟨rfl, rfl, rfl⟩ := x1 hu
    obtain ⟨rfl, rfl, rfl⟩ := y1 hu
    obtain ⟨rfl, rfl, rfl⟩ := z1 hu
    repeat (first | refine run_S ?_ | refine w_box (fun _ => ?_) | refine w_al (fun _ => ?_))
    refine sl_gdec rfl rfl (fun _ => ?_) (fun h => absurd rfl h)
    repeat (first | refine run_S ?_ | refine w_box (fun _ => ?_) | refine w_al (fun _ => ?_))
    refine sl_gdec rfl rfl (fun _ => ?_) (fun h => absurd rfl h)
    repeat (first | refine run_S ?_ | refine w_box (fun _ => ?_) | refine w_al (fun _ => ?_))
    refine sl_gdec rfl rfl (fun _ => ?_) (fun h => absurd rfl h)
    repeat (first | refine run_S ?_ | refine w_box (fun _ => ?_) | refine w_al (fun _ => ?_))
    refine sl_bslice (vs := [zeroIV, zeroIV, zeroIV].map IV.v) sym rfl rfl rfl rfl rfl rfl (by intro v hv; obtain ⟨y, _, rfl⟩ := List.mem_map.1 hv; rfl) rfl rfl rfl rfl rfl rfl (fun b2 => ?_)
    repeat (first | refine run_S ?_ | refine w_box (fun _ => ?_) | refine w_al (fun _ => ?_))
    refine sl_call rfl rfl rfl rfl rfl rfl (fun _ => zero_ct (ivs_head.app _) rfl (by decide) (by simp)) ?_
    rintro v U' D hU ⟨rfl, rfl, rfl⟩
    repeat (first | refine run_S ?_ | refine w_box (fun _ => ?_) | refine w_al (fun _ => ?_))
    exact sk_ret [] sym rfl (.cons (.tmp rfl) .nil) hUc sb (.inl rfl) ⟨rfl, hUc⟩
  refine st_eq rfl (fun h => absurd (Int.sign_eq_zero_iff_zero.1 h) hu) (fun _ => ?_)
  replace x2 := x2 hu; replace x3 := x3 hu; replace y3 := y3 hu; replace z3 := z3 hu
  have hsn : zn.sign < 0 ↔ zn < 0 := ⟨fun h => by
    rcases (show zn < 0 ∨ 0 ≤ zn by omega) with h1 | h1
    · exact h1
    · have := Int.sign_nonneg_iff.2 h1; omega, fun h => by rw [Int.sign_eq_neg_one_of_neg h]; decide⟩
  have hsk : zk.sign < 0 ↔ zk < 0 := ⟨fun h => by
    rcases (show zk < 0 ∨ 0 ≤ zk by omega) with h1 | h1
    · exact h1
    · have := Int.sign_nonneg_iff.2 h1; omega, fun h => by rw [Int.sign_eq_neg_one_of_neg h]; decide⟩
  repeat (first | refine run_S ?_ | refine w_box (fun _ => ?_) | refine w_al (fun _ => ?_))
  refine sl_call rfl rfl rfl rfl rfl rfl (fun _ => rSign_ct (hn.up hUc sb) (by omega)) ?_
  rintro v U' D hU ⟨rfl, rfl, rfl⟩
  repeat (first | refine run_S ?_ | refine w_box (fun _ => ?_) | refine w_al (fun _ => ?_))
  refine sl_gdec rfl rfl (fun g5 => ?_) (fun g5 => ?_)
  · obtain ⟨rfl, rfl, rfl⟩ := x2 (hsn.1 g5)
    repeat (first | refine run_S ?_ | refine w_box (fun _ => ?_) | refine w_al (fun _ => ?_))
    refine sl_call rfl rfl rfl rfl rfl rfl (fun _ => rSign_ct (hn.up hUc sb) (by omega)) ?_
    rintro v U' D hU ⟨rfl, rfl, rfl⟩
    repeat (first | refine run_S ?_ | refine w_box (fun _ => ?_) | refine w_al (fun _ => ?_))
    refine sl_gdec rfl rfl (fun h => absurd g5 (by omega)) (fun _ => ?_)
    repeat (first | refine run_S ?_ | refine w_box (fun _ => ?_) | refine w_al (fun _ => ?_))
    refine sl_gdec rfl rfl (fun _ => ?_) (fun h => absurd rfl h)
    repeat (first | refine run_S ?_ | refine w_box (fun _ => ?_) | refine w_al (fun _ => ?_))
    refine sl_bslice (vs := [zeroIV].map IV.v) sym rfl rfl rfl rfl rfl rfl (by intro v hv; obtain ⟨y, _, rfl⟩ := List.mem_map.1 hv; rfl) rfl rfl rfl rfl rfl rfl (fun b2 => ?_)
    repeat (first | refine run_S ?_ | refine w_box (fun _ => ?_) | refine w_al (fun _ => ?_))
    refine sl_call rfl rfl rfl rfl rfl rfl (fun _ => zero_ct (ivs_head.app _) rfl (by decide) (by simp)) ?_
    rintro v U' D hU ⟨rfl, rfl, rfl⟩
    repeat (first | refine run_S ?_ | refine w_box (fun _ => ?_) | refine w_al (fun _ => ?_))
    exact sk_ret [] sym rfl (.cons (.tmp rfl) .nil) hUc sb (.inl rfl) ⟨rfl, hUc⟩
  have g5' : 0 ≤ zn := by
    rcases (show zn < 0 ∨ 0 ≤ zn by omega) with h | h
    · exact absurd (hsn.2 h) g5
    · exact h
  repeat (first | refine run_S ?_ | refine w_box (fun _ => ?_) | refine w_al (fun _ => ?_))
  refine sl_call rfl rfl rfl rfl rfl rfl (fun _ => rSign_ct (hk.up hUc sb) (by omega)) ?_
  rintro v U' D hU ⟨rfl, rfl, rfl⟩
  repeat (first | refine run_S ?_ | refine w_box (fun _ => ?_) | refine w_al (fun _ => ?_))
  refine st_dec rfl (fun g6 => ?_) (fun g6 => ?_)
  · repeat (first | refine run_S ?_ | refine w_box (fun _ => ?_) | refine w_al (fun _ => ?_))
    refine sl_call rfl rfl rfl rfl rfl rfl (fun _ => rSign_ct (hn.up hUc sb) (by omega)) ?_
    rintro v U' D hU ⟨rfl, rfl, rfl⟩
    repeat (first | refine run_S ?_ | refine w_box (fun _ => ?_) | refine w_al (fun _ => ?_))
    refine sl_gdec rfl rfl (fun _ => ?_) (fun h => absurd (show zn.sign ≥ 0 by omega) h)
    repeat (first | refine run_S ?_ | refine w_box (fun _ => ?_) | refine w_al (fun _ => ?_))
    exact sk_ret [] sym rfl (.cons (.tmp rfl) .nil) hUc sb (.inl rfl) ⟨rfl, hUc⟩
  have g6' : 0 ≤ zk := by
    rcases (show zk < 0 ∨ 0 ≤ zk by omega) with h | h
    · exact absurd (hsk.2 h) g6
    · exact h
  obtain ⟨rfl, hx⟩ := x3 g5'
  obtain ⟨rfl, hy⟩ := y3 g6'
  obtain ⟨rfl, hz⟩ := z3 (by omega)
  obtain ⟨En, rfl⟩ : ∃ En : Nat, zn = (En : Int) := ⟨zn.toNat, by omega⟩
  obtain ⟨Ek, rfl⟩ : ∃ Ek : Nat, zk = (Ek : Int) := ⟨zk.toNat, by omega⟩
  rw [Int.toNat_natCast] at hx hy
  rw [show ((En : Int) + (Ek : Int)).toNat = En + Ek by omega] at hz
  repeat (first | refine run_S ?_ | refine w_box (fun _ => ?_) | refine w_al (fun _ => ?_))
  refine st_draw [0, 1, 3, 2, 4, 5, 6, 7, 8, 9, 10, 11] sym (by kernel_rfl) ?_
  repeat (first | refine run_S ?_ | refine w_box (fun _ => ?_) | refine w_al (fun _ => ?_))
  refine sl_call rfl rfl rfl rfl rfl rfl (fun _ => rMul_ct (hx.at sb).rep (hx.le (sz_mod sm hu) (by decide)) (hy.at sb).rep (hy.le (sz_mod sm hu) (by decide))) ?_
  rintro v U' Dh2 hU ⟨xh2, rfl, h2, rfl⟩
  refine sl_perm ?_ (perm7 (D := Dh2))
  repeat (first | refine run_S ?_ | refine w_box (fun _ => ?_) | refine w_al (fun _ => ?_))
  refine sl_call rfl rfl rfl rfl rfl rfl (fun _ => rEuclid_ct (h2.at sb).rep (h2.le ((sz_mod sm hu).mul (sz_mod sm hu)) (by decide)) (hm.up hUc sb) (by omega) hu) ?_
  rintro v U' D hU ⟨xq3, xr3, Dq3, Dr3, rfl, rfl, q3, r3, rfl⟩
  rw [List.append_assoc]
  refine sl_perm ?_ ((List.Perm.append_left Dr3 (perm7 (D := Dq3))).trans (perm7 (D := Dr3)))
  repeat (first | refine run_S ?_ | refine w_box (fun _ => ?_) | refine w_al (fun _ => ?_))
  rw [← Int.mul_emod, ← Int.pow_add] at r3
  refine st_draw [0, 1, 2, 3, 4, 5, 6, 7, 8, 9, 10, 11, 12, 13, 14, 15, 16, 17, 18, 19, 20, 21, 22, 23] sym (by kernel_rfl) ?_
  repeat (first | refine run_S ?_ | refine w_box (fun _ => ?_) | refine w_al (fun _ => ?_))
  refine sl_gdec rfl rfl (fun _ => ?_) (fun h => absurd rfl h)
  repeat (first | refine run_S ?_ | refine w_box (fun _ => ?_) | refine w_al (fun _ => ?_))
  refine sl_gdec rfl rfl (fun _ => ?_) (fun h => absurd rfl h)
  repeat (first | refine run_S ?_ | refine w_box (fun _ => ?_) | refine w_al (fun _ => ?_))
  refine sl_gdec rfl rfl (fun _ => ?_) (fun h => absurd rfl h)
  repeat (first | refine run_S ?_ | refine w_box (fun _ => ?_) | refine w_al (fun _ => ?_))
  refine sl_call rfl rfl rfl rfl rfl rfl (fun _ => rResidue_ct (ha.up hUc sb) (by omega) (hn.up hUc sb) (by omega) (hm.up hUc sb) (by omega) hu) ?_
  rintro v U' Dh4 hU ⟨xh4, rfl, h4, rfl⟩
  refine sl_perm ?_ (perm9 (D := Dh4))
  repeat (first | refine run_S ?_ | refine w_box (fun _ => ?_) | refine w_al (fun _ => ?_))
  refine sl_call rfl rfl rfl rfl rfl rfl (fun _ => Same_ct (hx.at sb) (h4.at sb)) ?_
  rintro v U' D hU ⟨rfl, rfl, rfl⟩
  repeat (first | refine run_S ?_ | refine w_box (fun _ => ?_) | refine w_al (fun _ => ?_))
  refine sl_call rfl rfl rfl rfl rfl rfl (fun _ => Same_ct (hz.at sb) (r3.at sb)) ?_
  rintro v U' D hU ⟨rfl, rfl, rfl⟩
  repeat (first | refine run_S ?_ | refine w_box (fun _ => ?_) | refine w_al (fun _ => ?_))
  exact sk_ret [] sym rfl (.cons (.tmp rfl) .nil) hUc sb (.inl rfl) ⟨rfl, hUc⟩

end Go.Proofs.Ytcakainebimmdaa
