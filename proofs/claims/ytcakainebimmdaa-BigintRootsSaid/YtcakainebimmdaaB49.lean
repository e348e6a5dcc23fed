/- The law on square roots. -/
import Derived.Test.YtcakainebimmdaaM9
namespace Go.Proofs.Ytcakainebimmdaa
open Go.Hp
variable {G : World} {U : UH} {M : MH}

theorem root_one {A R S : Nat} (h1 : R * R ≤ A) (h2 : A < (R + 1) * (R + 1)) (h3 : S * S ≤ A) (h4 : A < (S + 1) * (S + 1)) : R = S := by
  rcases Nat.lt_trichotomy R S with h | h | h
  · have := Nat.mul_le_mul (show R + 1 ≤ S from h) (show R + 1 ≤ S from h); omega
  · exact h
  · have := Nat.mul_le_mul (show S + 1 ≤ R from h) (show S + 1 ≤ R from h); omega

theorem IV.own.zero {r : IV} {D : MH} (h : r.own D 0) : r.neg = false ∧ r.n = 0 := by
  refine ⟨?_, h.len0.2 rfl⟩
  obtain ⟨l, _, _, _, h4⟩ := h
  simpa using h4

theorem BigintRoots_ct {a : IV} {za : Int} (ha : a.rep U M za) :
    Ct Try.prog 13 [a.v] G U M fun v _ _ => v = .bool true := by
  refine ct_of_st Try.func13 rfl rfl rfl rfl ?_
  repeat (first | refine run_S ?_ | refine w_box (fun _ => ?_) | refine w_al (fun _ => ?_))
  refine sl_call rfl rfl rfl rfl rfl rfl (fun _ => awake_ct) ?_
  rintro v U1 D hUc ⟨rfl, -, rfl⟩
  repeat (first | refine run_S ?_ | refine w_box (fun _ => ?_) | refine w_al (fun _ => ?_))
  refine st_dec rfl (fun h20 => ?_) (fun h20 => ?_)
  · repeat (first | refine run_S ?_ | refine w_box (fun _ => ?_) | refine w_al (fun _ => ?_))
    exact sk_ret [] sym rfl (.cons (.tmp rfl) .nil) hUc sb (.inl rfl) rfl
  have hna : a.n ≤ 20 := by omega
  have sa := ha.sz hna
  repeat (first | refine run_S ?_ | refine w_box (fun _ => ?_) | refine w_al (fun _ => ?_))
  refine sl_call rfl rfl rfl rfl rfl rfl (fun _ => Sqrt_ct (ha.up hUc sb) (by omega)) ?_
  rintro v U2 D1 hU ⟨r, b, e, rfl, hn1, hp1, -⟩
  replace hUc := hUc.trans hU
  refine sl_perm ?_ (perm1 (D := D1))
  repeat (first | refine run_S ?_ | refine w_box (fun _ => ?_) | refine w_al (fun _ => ?_))
  refine sl_call rfl rfl rfl rfl rfl rfl (fun _ => rSign_ct (ha.up hUc sb) (by omega)) ?_
  rintro v U' D hU ⟨rfl, rfl, rfl⟩
  repeat (first | refine run_S ?_ | refine w_box (fun _ => ?_) | refine w_al (fun _ => ?_))
  by_cases hz : za < 0
  · refine st_dec rfl (fun _ => ?_) (fun h => absurd (by rw [Int.sign_eq_neg_one_of_neg hz]; decide) h)
    obtain ⟨rfl, rfl, rfl, rfl⟩ := hn1 hz
    repeat (first | refine run_S ?_ | refine w_box (fun _ => ?_) | refine w_al (fun _ => ?_))
    refine sl_gdec rfl rfl (fun _ => ?_) (fun h => absurd rfl h)
    repeat (first | refine run_S ?_ | refine w_box (fun _ => ?_) | refine w_al (fun _ => ?_))
    refine sl_bslice (vs := [zeroIV].map IV.v) sym rfl rfl rfl rfl rfl rfl (by intro v hv; obtain ⟨y, _, rfl⟩ := List.mem_map.1 hv; rfl) rfl rfl rfl rfl rfl rfl (fun b2 => ?_)
    repeat (first | refine run_S ?_ | refine w_box (fun _ => ?_) | refine w_al (fun _ => ?_))
    refine sl_call rfl rfl rfl rfl rfl rfl (fun _ => zero_ct (ivs_head.app _) rfl (by decide) (by simp)) ?_
    rintro v U' D hU ⟨rfl, rfl, rfl⟩
    repeat (first | refine run_S ?_ | refine w_box (fun _ => ?_) | refine w_al (fun _ => ?_))
    exact sk_ret [] sym rfl (.cons (.tmp rfl) .nil) hUc sb (.inl rfl) rfl
  refine st_dec rfl (fun h => absurd h (by have := Int.sign_nonneg_iff.2 (show (0 : Int) ≤ za by omega); omega)) (fun _ => ?_)
  obtain ⟨rfl, R, hr, hR1, hR2, hbR⟩ := hp1 (by omega)
  obtain ⟨A, rfl⟩ : ∃ A : Nat, za = (A : Int) := ⟨za.toNat, by omega⟩
  rw [Int.natAbs_natCast] at hR1 hR2 hbR
  repeat (first | refine run_S ?_ | refine w_box (fun _ => ?_) | refine w_al (fun _ => ?_))
  refine sl_call rfl rfl rfl rfl rfl rfl (fun _ => rRoot_ct (ha.up hUc sb) (by omega)) ?_
  rintro v U' D2 hU ⟨w, S, rfl, hw, hS1, hS2, rfl⟩
  have hRS := root_one hS1 hS2 hR1 hR2
  subst hRS
  refine sl_perm ?_ (perm2 (D := D2))
  have sS : Sz (S : Int) 20 := by
    unfold Sz at sa ⊢
    rw [Int.natAbs_natCast] at sa ⊢
    have : S ≤ S * S := by
      rcases Nat.eq_zero_or_pos S with h | h
      · omega
      · exact Nat.le_mul_of_pos_left S h
    omega
  repeat (first | refine run_S ?_ | refine w_box (fun _ => ?_) | refine w_al (fun _ => ?_))
  refine st_draw [0, 1, 2, 3, 4, 5, 6, 7, 8, 9, 10, 11, 13, 12, 14, 15, 16, 17] sym (by kernel_rfl) ?_
  repeat (first | refine run_S ?_ | refine w_box (fun _ => ?_) | refine w_al (fun _ => ?_))
  refine sl_gdec rfl rfl (fun h => absurd rfl h) (fun _ => ?_)
  repeat (first | refine run_S ?_ | refine w_box (fun _ => ?_) | refine w_al (fun _ => ?_))
  refine sl_call rfl rfl rfl rfl rfl rfl (fun _ => Same_ct (hr.at sb) (hw.at sb)) ?_
  rintro v U' D hU ⟨rfl, rfl, rfl⟩
  repeat (first | refine run_S ?_ | refine w_box (fun _ => ?_) | refine w_al (fun _ => ?_))
  refine sl_call rfl rfl rfl rfl rfl rfl (fun _ => rMul_ct (hw.at sb).rep (hw.le (sS) (by decide)) (hw.at sb).rep (hw.le (sS) (by decide))) ?_
  rintro v U' Dh3 hU ⟨xh3, rfl, h3, rfl⟩
  refine sl_perm ?_ (perm3 (D := Dh3))
  repeat (first | refine run_S ?_ | refine w_box (fun _ => ?_) | refine w_al (fun _ => ?_))
  refine sl_call rfl rfl rfl rfl rfl rfl (fun _ => rCmp_ct (h3.at sb).rep (h3.le (sS.mul sS) (by decide)) (ha.up hUc sb) (by omega)) ?_
  rintro v U' D hU ⟨rfl, rfl, rfl⟩
  repeat (first | refine run_S ?_ | refine w_box (fun _ => ?_) | refine w_al (fun _ => ?_))
  have hbd : (b == dec (((S : Int) * (S : Int) - (A : Int)).sign = 0)) = true := by
    rw [dec_eq, beq_iff_eq]
    refine Bool.eq_iff_iff.2 ?_
    rw [hbR, decide_eq_true_iff, Int.sign_eq_zero_iff_zero, ← Int.natCast_mul]
    omega
  rw [hbd]
  repeat (first | refine run_S ?_ | refine w_box (fun _ => ?_) | refine w_al (fun _ => ?_))
  refine sl_call rfl rfl rfl rfl rfl rfl (fun _ => rMul_ct (ha.up hUc sb) (by omega) (ha.up hUc sb) (by omega)) ?_
  rintro v U' Dh4 hU ⟨xh4, rfl, h4, rfl⟩
  refine sl_perm ?_ (perm3 (D := Dh4))
  repeat (first | refine run_S ?_ | refine w_box (fun _ => ?_) | refine w_al (fun _ => ?_))
  rw [← Int.natCast_mul] at h4
  have s4 := sa.mul sa
  rw [← Int.natCast_mul] at s4
  refine sl_call rfl rfl rfl rfl rfl rfl (fun _ => Sqrt_ct (h4.at sb).rep (h4.le (s4) (by decide))) ?_
  rintro v U3 D5 hU ⟨r8, b9, e10, rfl, -, hp2, -⟩
  replace hUc := hUc.trans hU
  obtain ⟨rfl, R8, h8, h81, h82, hb9⟩ := hp2 (by omega)
  rw [Int.natAbs_natCast] at h81 h82 hb9
  have hR8 : R8 = A := root_one h81 h82 (Nat.le_refl _) (by have := Nat.mul_lt_mul_of_lt_of_le (Nat.lt_succ_self A) (Nat.le_succ A) (Nat.succ_pos A); exact this)
  subst hR8
  obtain rfl : b9 = true := hb9.2 rfl
  refine sl_perm ?_ (perm4 (D := D5))
  repeat (first | refine run_S ?_ | refine w_box (fun _ => ?_) | refine w_al (fun _ => ?_))
  refine st_draw [0, 1, 2, 3, 4, 5, 6, 7, 8, 9, 10, 11] sym (by kernel_rfl) ?_
  repeat (first | refine run_S ?_ | refine w_box (fun _ => ?_) | refine w_al (fun _ => ?_))
  refine sl_call rfl rfl rfl rfl rfl rfl (fun _ => rOf_ct (z := 1) (by decide) (by decide)) ?_
  rintro v U' Dh5 hU ⟨xh5, rfl, h5, rfl⟩
  refine sl_perm ?_ (perm5 (D := Dh5))
  repeat (first | refine run_S ?_ | refine w_box (fun _ => ?_) | refine w_al (fun _ => ?_))
  have s5 : Sz 1 1 := by unfold Sz; decide
  refine sl_call rfl rfl rfl rfl rfl rfl (fun _ => rAdd_ct (h4.at sb).rep (h4.le (s4) (by decide)) (h5.at sb).rep (h5.le (s5) (by decide))) ?_
  rintro v U' Dh6 hU ⟨xh6, rfl, h6, rfl⟩
  refine sl_perm ?_ (perm5 (D := Dh6))
  repeat (first | refine run_S ?_ | refine w_box (fun _ => ?_) | refine w_al (fun _ => ?_))
  rw [show ((R8 * R8 : Nat) : Int) + 1 = ((R8 * R8 + 1 : Nat) : Int) by omega] at h6
  have s6 := s4.add (s5.mono (show 1 ≤ 20 + 20 by decide))
  rw [show ((R8 * R8 : Nat) : Int) + 1 = ((R8 * R8 + 1 : Nat) : Int) by omega] at s6
  refine sl_call rfl rfl rfl rfl rfl rfl (fun _ => Sqrt_ct (h6.at sb).rep (h6.le (s6) (by decide))) ?_
  rintro v U4 D7 hU ⟨r11, b12, e13, rfl, -, hp3, -⟩
  replace hUc := hUc.trans hU
  obtain ⟨rfl, R11, h11, h111, h112, hb12⟩ := hp3 (by omega)
  rw [Int.natAbs_natCast] at h111 h112 hb12
  refine sl_perm ?_ (perm5 (D := D7))
  repeat (first | refine run_S ?_ | refine w_box (fun _ => ?_) | refine w_al (fun _ => ?_))
  refine sl_call rfl rfl rfl rfl rfl rfl (fun _ => rSign_ct (ha.up hUc sb) (by omega)) ?_
  rintro v U' D hU ⟨rfl, rfl, rfl⟩
  repeat (first | refine run_S ?_ | refine w_box (fun _ => ?_) | refine w_al (fun _ => ?_))
  by_cases hA : R8 = 0
  · subst hA
    refine st_eq rfl (fun _ => ?_) (fun h => absurd rfl h)
    have hR11 : R11 = 1 := root_one h111 h112 (by decide) (by decide)
    subst hR11
    obtain rfl : b12 = true := hb12.2 rfl
    repeat (first | refine run_S ?_ | refine w_box (fun _ => ?_) | refine w_al (fun _ => ?_))
    refine st_draw [0, 1, 2, 3, 4, 5, 6, 7, 8, 9, 10, 11, 12, 13, 14, 15, 16, 17, 18, 19, 20, 21, 22] sym (by kernel_rfl) ?_
    repeat (first | refine run_S ?_ | refine w_box (fun _ => ?_) | refine w_al (fun _ => ?_))
    refine sl_gdec rfl rfl (fun _ => ?_) (fun h => absurd rfl h)
    repeat (first | refine run_S ?_ | refine w_box (fun _ => ?_) | refine w_al (fun _ => ?_))
    refine sl_bslice (vs := [r8].map IV.v) sym rfl rfl rfl rfl rfl rfl (by intro v hv; obtain ⟨y, _, rfl⟩ := List.mem_map.1 hv; rfl) rfl rfl rfl rfl rfl rfl (fun b2 => ?_)
    repeat (first | refine run_S ?_ | refine w_box (fun _ => ?_) | refine w_al (fun _ => ?_))
    refine sl_call rfl rfl rfl rfl rfl rfl (fun _ => zero_ct (ivs_head.app _) rfl (by decide) (fun x hx => by rw [List.mem_singleton.1 hx]; exact h8.zero)) ?_
    rintro v U' D hU ⟨rfl, rfl, rfl⟩
    repeat (first | refine run_S ?_ | refine w_box (fun _ => ?_) | refine w_al (fun _ => ?_))
    refine sl_gdec rfl rfl (fun _ => ?_) (fun h => absurd rfl h)
    repeat (first | refine run_S ?_ | refine w_box (fun _ => ?_) | refine w_al (fun _ => ?_))
    refine sl_call rfl rfl rfl rfl rfl rfl (fun _ => rOf_ct (z := 1) (by decide) (by decide)) ?_
    rintro v U' Dh12 hU ⟨xh12, rfl, h12, rfl⟩
    refine sl_perm ?_ (perm7 (D := Dh12))
    repeat (first | refine run_S ?_ | refine w_box (fun _ => ?_) | refine w_al (fun _ => ?_))
    refine sl_call rfl rfl rfl rfl rfl rfl (fun _ => Same_ct (h11.at sb) (h12.at sb)) ?_
    rintro v U' D hU ⟨rfl, rfl, rfl⟩
    repeat (first | refine run_S ?_ | refine w_box (fun _ => ?_) | refine w_al (fun _ => ?_))
    exact sk_ret [] sym rfl (.cons (.tmp rfl) .nil) hUc sb (.inl rfl) rfl
  · refine st_eq rfl (fun h => absurd (Int.sign_eq_zero_iff_zero.1 h) (by omega)) (fun _ => ?_)
    have hR11 : R11 = R8 := root_one h111 h112 (by omega) (by grind)
    subst hR11
    obtain rfl : b12 = false := by
      cases b12
      · rfl
      · have := hb12.1 rfl; omega
    repeat (first | refine run_S ?_ | refine w_box (fun _ => ?_) | refine w_al (fun _ => ?_))
    refine st_draw [0, 1, 2, 3, 4, 5, 6, 7, 8, 9, 10, 11, 12, 13, 14, 15, 16, 17, 18, 19, 20, 21, 22, 23, 24, 25] sym (by kernel_rfl) ?_
    repeat (first | refine run_S ?_ | refine w_box (fun _ => ?_) | refine w_al (fun _ => ?_))
    refine sl_gdec rfl rfl (fun _ => ?_) (fun h => absurd rfl h)
    repeat (first | refine run_S ?_ | refine w_box (fun _ => ?_) | refine w_al (fun _ => ?_))
    refine sl_call rfl rfl rfl rfl rfl rfl (fun _ => Norm_ct (ha.up hUc sb) (by omega)) ?_
    rintro v U' Dh12 hU ⟨xh12, rfl, h12, rfl⟩
    refine sl_perm ?_ (perm6 (D := Dh12))
    repeat (first | refine run_S ?_ | refine w_box (fun _ => ?_) | refine w_al (fun _ => ?_))
    refine sl_call rfl rfl rfl rfl rfl rfl (fun _ => Same_ct (h8.at sb) (h12.at sb)) ?_
    rintro v U' D hU ⟨rfl, rfl, rfl⟩
    repeat (first | refine run_S ?_ | refine w_box (fun _ => ?_) | refine w_al (fun _ => ?_))
    refine sl_gdec rfl rfl (fun _ => ?_) (fun h => absurd rfl h)
    repeat (first | refine run_S ?_ | refine w_box (fun _ => ?_) | refine w_al (fun _ => ?_))
    refine sl_call rfl rfl rfl rfl rfl rfl (fun _ => Norm_ct (ha.up hUc sb) (by omega)) ?_
    rintro v U' Dh13 hU ⟨xh13, rfl, h13, rfl⟩
    refine sl_perm ?_ (perm6 (D := Dh13))
    repeat (first | refine run_S ?_ | refine w_box (fun _ => ?_) | refine w_al (fun _ => ?_))
    refine sl_call rfl rfl rfl rfl rfl rfl (fun _ => Same_ct (h11.at sb) (h13.at sb)) ?_
    rintro v U' D hU ⟨rfl, rfl, rfl⟩
    repeat (first | refine run_S ?_ | refine w_box (fun _ => ?_) | refine w_al (fun _ => ?_))
    exact sk_ret [] sym rfl (.cons (.tmp rfl) .nil) hUc sb (.inl rfl) rfl

end Go.Proofs.Ytcakainebimmdaa
