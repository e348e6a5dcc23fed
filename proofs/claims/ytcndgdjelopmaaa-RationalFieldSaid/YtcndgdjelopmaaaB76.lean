/- The law of layer 2 on the axioms of an ordered field. -/
import Derived.Test.YtcndgdjelopmaaaB75
namespace Go.Proofs.Ytcndgdjelopmaaa
open Go.Hp
variable {G : World} {U : UH} {M : MH}

theorem wrap_sign (a b : Int) : IntKind.i64.wrap (a.sign * b.sign) = a.sign * b.sign := by
  rcases Int.lt_trichotomy a 0 with h | h | h <;> rcases Int.lt_trichotomy b 0 with h' | h' | h' <;>
    first | (rw [Int.sign_eq_neg_one_of_neg h]) | (rw [Int.sign_eq_one_of_pos h]) | (rw [h])
  all_goals first | (rw [Int.sign_eq_neg_one_of_neg h']) | (rw [Int.sign_eq_one_of_pos h']) | (rw [h'])
  all_goals decide
theorem num_sign_mul (p q : Rat) : (p * q).num.sign = p.num.sign * q.num.sign := by
  rw [rat_mul, over_sign, Int.sign_mul, Int.sign_eq_one_of_pos (Int.mul_pos (rat_den_pos p) (rat_den_pos q)), Int.mul_one]

theorem RationalField_ct {a b c : QV} {p q r : Rat} (ha : a.rep U M p) (hb : b.rep U M q) (hc : c.rep U M r) :
    Ct Try.prog 4 [a.v, b.v, c.v] G U M fun v _ _ => v = .bool true := by
  refine ct_of_st Try.func4 rfl rfl rfl rfl ?_
  repeat (first | refine run_S ?_ | refine w_box (fun _ => ?_) | refine w_al (fun _ => ?_))
  refine sl_call rfl rfl rfl rfl rfl rfl (fun _ => awake2_ct) ?_
  rintro v U1 D hU ⟨rfl, -, rfl⟩
  repeat (first | refine run_S ?_ | refine w_box (fun _ => ?_) | refine w_al (fun _ => ?_))
  refine sl_bslice (vs := [a, b, c].map QV.v) sym rfl rfl rfl rfl rfl rfl qvs_size rfl rfl rfl rfl rfl rfl (fun bo => ?_)
  repeat (first | refine run_S ?_ | refine w_box (fun _ => ?_) | refine w_al (fun _ => ?_))
  refine sl_call rfl rfl rfl rfl rfl rfl (fun _ => long2_ct (qvs_head.app _) rfl (by decide)) ?_
  rintro v U' D hU' ⟨l, rfl, hr, rfl, rfl⟩
  repeat (first | refine run_S ?_ | refine w_box (fun _ => ?_) | refine w_al (fun _ => ?_))
  cases l
  · have hna := hr rfl a (by simp)
    have hnb := hr rfl b (by simp)
    have hnc := hr rfl c (by simp)
    have sa := ha.sz hna (by decide)
    have sbb := hb.sz hnb (by decide)
    have sc := hc.sz hnc (by decide)
    repeat (first | refine run_S ?_ | refine w_box (fun _ => ?_) | refine w_al (fun _ => ?_))
    refine st_draw [0, 1, 2, 3, 4, 5, 6] sym (by kernel_rfl) ?_
    repeat (first | refine run_S ?_ | refine w_box (fun _ => ?_) | refine w_al (fun _ => ?_))
    refine sl_call rfl rfl rfl rfl rfl rfl (fun _ => (qAdd_ct (hb.up uc sb) (by omega) (hc.up uc sb) (by omega)).settle) ?_
    rintro v Uh1 D hU ⟨rfl, _, _, ⟨xh1, rfl, h1, -⟩, -, -, hs⟩
    replace h1 := h1.sett hs
    clear hs
    repeat (first | refine run_S ?_ | refine w_box (fun _ => ?_) | refine w_al (fun _ => ?_))
    refine sl_call rfl rfl rfl rfl rfl rfl (fun _ => (qMul_ct (ha.up uc sb) (by omega) (h1.rep.up uc sb) (h1.le (sbb.add sc) (by omega))).settle) ?_
    rintro v Uh2 D hU ⟨rfl, _, _, ⟨xh2, rfl, h2, -⟩, -, -, hs⟩
    replace h2 := h2.sett hs
    clear hs
    repeat (first | refine run_S ?_ | refine w_box (fun _ => ?_) | refine w_al (fun _ => ?_))
    refine st_draw [0, 1, 3, 4, 2, 5, 6, 7, 8] sym (by kernel_rfl) ?_
    repeat (first | refine run_S ?_ | refine w_box (fun _ => ?_) | refine w_al (fun _ => ?_))
    refine sl_call rfl rfl rfl rfl rfl rfl (fun _ => (qMul_ct (hb.up uc sb) (by omega) (ha.up uc sb) (by omega)).settle) ?_
    rintro v Uh3 D hU ⟨rfl, _, _, ⟨xh3, rfl, h3, -⟩, -, -, hs⟩
    replace h3 := h3.sett hs
    clear hs
    repeat (first | refine run_S ?_ | refine w_box (fun _ => ?_) | refine w_al (fun _ => ?_))
    refine sl_call rfl rfl rfl rfl rfl rfl (fun _ => (qMul_ct (hc.up uc sb) (by omega) (ha.up uc sb) (by omega)).settle) ?_
    rintro v Uh4 D hU ⟨rfl, _, _, ⟨xh4, rfl, h4, -⟩, -, -, hs⟩
    replace h4 := h4.sett hs
    clear hs
    repeat (first | refine run_S ?_ | refine w_box (fun _ => ?_) | refine w_al (fun _ => ?_))
    refine sl_call rfl rfl rfl rfl rfl rfl (fun _ => (qAdd_ct (h3.rep.up uc sb) (h3.le (sbb.mul sa) (by omega)) (h4.rep.up uc sb) (h4.le (sc.mul sa) (by omega))).settle) ?_
    rintro v Uh5 D hU ⟨rfl, _, _, ⟨xh5, rfl, h5, -⟩, -, -, hs⟩
    replace h5 := h5.sett hs
    clear hs
    repeat (first | refine run_S ?_ | refine w_box (fun _ => ?_) | refine w_al (fun _ => ?_))
    refine st_draw [0, 1, 2, 5, 6, 8, 3, 4, 7, 9, 10, 11, 12, 13] sym (by kernel_rfl) ?_
    repeat (first | refine run_S ?_ | refine w_box (fun _ => ?_) | refine w_al (fun _ => ?_))
    refine sl_call rfl rfl rfl rfl rfl rfl (fun _ => (qAdd_ct (hb.up uc sb) (by omega) (hc.up uc sb) (by omega)).settle) ?_
    rintro v Uh6 D hU ⟨rfl, _, _, ⟨xh6, rfl, h6, -⟩, -, -, hs⟩
    replace h6 := h6.sett hs
    clear hs
    repeat (first | refine run_S ?_ | refine w_box (fun _ => ?_) | refine w_al (fun _ => ?_))
    refine sl_call rfl rfl rfl rfl rfl rfl (fun _ => (qAdd_ct (ha.up uc sb) (by omega) (h6.rep.up uc sb) (h6.le (sbb.add sc) (by omega))).settle) ?_
    rintro v Uh7 D hU ⟨rfl, _, _, ⟨xh7, rfl, h7, -⟩, -, -, hs⟩
    replace h7 := h7.sett hs
    clear hs
    repeat (first | refine run_S ?_ | refine w_box (fun _ => ?_) | refine w_al (fun _ => ?_))
    refine sl_call rfl rfl rfl rfl rfl rfl (fun _ => (qAdd_ct (ha.up uc sb) (by omega) (hb.up uc sb) (by omega)).settle) ?_
    rintro v Uh8 D hU ⟨rfl, _, _, ⟨xh8, rfl, h8, -⟩, -, -, hs⟩
    replace h8 := h8.sett hs
    clear hs
    repeat (first | refine run_S ?_ | refine w_box (fun _ => ?_) | refine w_al (fun _ => ?_))
    refine sl_call rfl rfl rfl rfl rfl rfl (fun _ => (qAdd_ct (h8.rep.up uc sb) (h8.le (sa.add sbb) (by omega)) (hc.up uc sb) (by omega)).settle) ?_
    rintro v Uh9 D hU ⟨rfl, _, _, ⟨xh9, rfl, h9, -⟩, -, -, hs⟩
    replace h9 := h9.sett hs
    clear hs
    repeat (first | refine run_S ?_ | refine w_box (fun _ => ?_) | refine w_al (fun _ => ?_))
    rw [show q * p + r * p = p * (q + r) by grind] at h5
    rw [show p + q + r = p + (q + r) by grind] at h9
    refine st_draw [0, 1, 2, 3, 4, 5, 6, 7, 8, 9, 10, 11, 12, 14, 16, 13, 15, 17, 18, 19, 20] sym (by kernel_rfl) ?_
    repeat (first | refine run_S ?_ | refine w_box (fun _ => ?_) | refine w_al (fun _ => ?_))
    refine sl_call rfl rfl rfl rfl rfl rfl (fun _ => rqSameT_ct (h2.up uc sb) (h5.up uc sb)) ?_
    rintro v U' D hU ⟨rfl, rfl, rfl⟩
    repeat (first | refine run_S ?_ | refine w_box (fun _ => ?_) | refine w_al (fun _ => ?_))
    refine sl_call rfl rfl rfl rfl rfl rfl (fun _ => rqSameT_ct (h7.up uc sb) (h9.up uc sb)) ?_
    rintro v U' D hU ⟨rfl, rfl, rfl⟩
    repeat (first | refine run_S ?_ | refine w_box (fun _ => ?_) | refine w_al (fun _ => ?_))
    refine sl_call rfl rfl rfl rfl rfl rfl (fun _ => (qAdd_ct (ha.up uc sb) (by omega) (hb.up uc sb) (by omega)).settle) ?_
    rintro v Uh10 D hU ⟨rfl, _, _, ⟨xh10, rfl, h10, -⟩, -, -, hs⟩
    replace h10 := h10.sett hs
    clear hs
    repeat (first | refine run_S ?_ | refine w_box (fun _ => ?_) | refine w_al (fun _ => ?_))
    refine sl_call rfl rfl rfl rfl rfl rfl (fun _ => (qSub_ct (h10.rep.up uc sb) (h10.le (sa.add sbb) (by omega)) (hb.up uc sb) (by omega)).settle) ?_
    rintro v Uh11 D hU ⟨rfl, _, _, ⟨xh11, rfl, h11, -⟩, -, -, hs⟩
    replace h11 := h11.sett hs
    clear hs
    repeat (first | refine run_S ?_ | refine w_box (fun _ => ?_) | refine w_al (fun _ => ?_))
    rw [show p + q - q = p by grind] at h11
    refine sl_call rfl rfl rfl rfl rfl rfl (fun _ => (qNormal_ct (ha.up uc sb) (by omega)).settle) ?_
    rintro v Uh12 D hU ⟨rfl, _, _, ⟨xh12, rfl, h12, -⟩, -, -, hs⟩
    replace h12 := h12.sett hs
    clear hs
    repeat (first | refine run_S ?_ | refine w_box (fun _ => ?_) | refine w_al (fun _ => ?_))
    refine sl_call rfl rfl rfl rfl rfl rfl (fun _ => rqSameT_ct (h11.up uc sb) (h12.up uc sb)) ?_
    rintro v U' D hU ⟨rfl, rfl, rfl⟩
    repeat (first | refine run_S ?_ | refine w_box (fun _ => ?_) | refine w_al (fun _ => ?_))
    refine st_draw [0, 1, 3, 4, 7, 8, 2, 5, 6, 9, 10, 11, 12, 13, 15, 16, 19, 20, 22, 14, 17, 18, 21, 23, 24, 25, 26] sym (by kernel_rfl) ?_
    repeat (first | refine run_S ?_ | refine w_box (fun _ => ?_) | refine w_al (fun _ => ?_))
    refine sl_call rfl rfl rfl rfl rfl rfl (fun _ => (qAdd_ct (ha.up uc sb) (by omega) (hc.up uc sb) (by omega)).settle) ?_
    rintro v Uh13 D hU ⟨rfl, _, _, ⟨xh13, rfl, h13, -⟩, -, -, hs⟩
    replace h13 := h13.sett hs
    clear hs
    repeat (first | refine run_S ?_ | refine w_box (fun _ => ?_) | refine w_al (fun _ => ?_))
    refine sl_call rfl rfl rfl rfl rfl rfl (fun _ => (qAdd_ct (hb.up uc sb) (by omega) (hc.up uc sb) (by omega)).settle) ?_
    rintro v Uh14 D hU ⟨rfl, _, _, ⟨xh14, rfl, h14, -⟩, -, -, hs⟩
    replace h14 := h14.sett hs
    clear hs
    repeat (first | refine run_S ?_ | refine w_box (fun _ => ?_) | refine w_al (fun _ => ?_))
    refine sl_call rfl rfl rfl rfl rfl rfl (fun _ => qCmp_ct (h13.rep.up uc sb) (h13.le (sa.add sc) (by omega)) (h14.rep.up uc sb) (h14.le (sbb.add sc) (by omega))) ?_
    rintro v _ D hU ⟨rfl, -, rfl⟩
    repeat (first | refine run_S ?_ | refine w_box (fun _ => ?_) | refine w_al (fun _ => ?_))
    refine sl_call rfl rfl rfl rfl rfl rfl (fun _ => qCmp_ct (ha.up uc sb) (by omega) (hb.up uc sb) (by omega)) ?_
    rintro v _ D hU ⟨rfl, -, rfl⟩
    repeat (first | refine run_S ?_ | refine w_box (fun _ => ?_) | refine w_al (fun _ => ?_))
    rw [show p + r - (q + r) = p - q by grind]
    refine sl_gdec rfl rfl (fun h => absurd rfl h) (fun _ => ?_)
    repeat (first | refine run_S ?_ | refine w_box (fun _ => ?_) | refine w_al (fun _ => ?_))
    refine sl_call rfl rfl rfl rfl rfl rfl (fun _ => (qMul_ct (ha.up uc sb) (by omega) (hc.up uc sb) (by omega)).settle) ?_
    rintro v Uh15 D hU ⟨rfl, _, _, ⟨xh15, rfl, h15, -⟩, -, -, hs⟩
    replace h15 := h15.sett hs
    clear hs
    repeat (first | refine run_S ?_ | refine w_box (fun _ => ?_) | refine w_al (fun _ => ?_))
    refine sl_call rfl rfl rfl rfl rfl rfl (fun _ => (qMul_ct (hb.up uc sb) (by omega) (hc.up uc sb) (by omega)).settle) ?_
    rintro v Uh16 D hU ⟨rfl, _, _, ⟨xh16, rfl, h16, -⟩, -, -, hs⟩
    replace h16 := h16.sett hs
    clear hs
    repeat (first | refine run_S ?_ | refine w_box (fun _ => ?_) | refine w_al (fun _ => ?_))
    refine sl_call rfl rfl rfl rfl rfl rfl (fun _ => qCmp_ct (h15.rep.up uc sb) (h15.le (sa.mul sc) (by omega)) (h16.rep.up uc sb) (h16.le (sbb.mul sc) (by omega))) ?_
    rintro v _ D hU ⟨rfl, -, rfl⟩
    repeat (first | refine run_S ?_ | refine w_box (fun _ => ?_) | refine w_al (fun _ => ?_))
    refine sl_call rfl rfl rfl rfl rfl rfl (fun _ => qCmp_ct (ha.up uc sb) (by omega) (hb.up uc sb) (by omega)) ?_
    rintro v _ D hU ⟨rfl, -, rfl⟩
    repeat (first | refine run_S ?_ | refine w_box (fun _ => ?_) | refine w_al (fun _ => ?_))
    refine sl_call rfl rfl rfl rfl rfl rfl (fun _ => qSign_ct (hc.up uc sb) (by omega)) ?_
    rintro v U' D hU ⟨rfl, rfl, rfl⟩
    repeat (first | refine run_S ?_ | refine w_box (fun _ => ?_) | refine w_al (fun _ => ?_))
    rw [wrap_sign, show p * r - q * r = (p - q) * r by grind, num_sign_mul]
    refine st_ne rfl (fun h => absurd rfl h) (fun _ => ?_)
    repeat (first | refine run_S ?_ | refine w_box (fun _ => ?_) | refine w_al (fun _ => ?_))
    refine sl_call rfl rfl rfl rfl rfl rfl (fun _ => (qQuo_ct (ha.up uc sb) (by omega) (hc.up uc sb) (by omega)).settle) ?_
    rintro v U2 D hU2 ⟨rfl, _, _, ⟨x, e, rfl, hx0, hx1, -⟩, -, -, hs2⟩
    repeat (first | refine run_S ?_ | refine w_box (fun _ => ?_) | refine w_al (fun _ => ?_))
    refine sl_call rfl rfl rfl rfl rfl rfl (fun _ => qSign_ct (hc.up uc sb) (by omega)) ?_
    rintro v U' D hU ⟨rfl, rfl, rfl⟩
    repeat (first | refine run_S ?_ | refine w_box (fun _ => ?_) | refine w_al (fun _ => ?_))
    refine st_eq rfl (fun h => ?_) (fun h => ?_)
    · have hr0 := rat_num_zero.1 (Int.sign_eq_zero_iff_zero.1 h)
      obtain ⟨rfl, rfl, rfl⟩ := hx0 hr0
      repeat (first | refine run_S ?_ | refine w_box (fun _ => ?_) | refine w_al (fun _ => ?_))
      exact sk_ret [] sym rfl (.cons (.tmp rfl) .nil) uc sb (.inl rfl) (tup_dec rfl)
    · have hr0 : r ≠ 0 := fun e => h (by rw [e]; rfl)
      obtain ⟨rfl, hx2⟩ := hx1 hr0
      replace hx2 := hx2.sett hs2
      repeat (first | refine run_S ?_ | refine w_box (fun _ => ?_) | refine w_al (fun _ => ?_))
      refine st_draw [0, 1, 2, 3, 4, 6, 5, 7, 8, 9, 10] sym (by kernel_rfl) ?_
      repeat (first | refine run_S ?_ | refine w_box (fun _ => ?_) | refine w_al (fun _ => ?_))
      refine sl_gdec rfl rfl (fun _ => ?_) (fun h => absurd rfl h)
      repeat (first | refine run_S ?_ | refine w_box (fun _ => ?_) | refine w_al (fun _ => ?_))
      refine sl_call rfl rfl rfl rfl rfl rfl (fun _ => (qMul_ct (hx2.rep.up uc sb) (hx2.le (sa.div sc) (by omega)) (hc.up uc sb) (by omega)).settle) ?_
      rintro v Uh17 D hU ⟨rfl, _, _, ⟨xh17, rfl, h17, -⟩, -, -, hs⟩
      replace h17 := h17.sett hs
      clear hs
      repeat (first | refine run_S ?_ | refine w_box (fun _ => ?_) | refine w_al (fun _ => ?_))
      rw [show p / r * r = p by grind] at h17
      refine sl_call rfl rfl rfl rfl rfl rfl (fun _ => (qNormal_ct (ha.up uc sb) (by omega)).settle) ?_
      rintro v Uh18 D hU ⟨rfl, _, _, ⟨xh18, rfl, h18, -⟩, -, -, hs⟩
      replace h18 := h18.sett hs
      clear hs
      repeat (first | refine run_S ?_ | refine w_box (fun _ => ?_) | refine w_al (fun _ => ?_))
      refine sl_call rfl rfl rfl rfl rfl rfl (fun _ => rqSameT_ct (h17.up uc sb) (h18.up uc sb)) ?_
      rintro v U' D hU ⟨rfl, rfl, rfl⟩
      repeat (first | refine run_S ?_ | refine w_box (fun _ => ?_) | refine w_al (fun _ => ?_))
      exact sk_ret [] sym rfl (.cons (.tmp rfl) .nil) uc sb (.inl rfl) rfl
  · repeat (first | refine run_S ?_ | refine w_box (fun _ => ?_) | refine w_al (fun _ => ?_))
    exact sk_ret [] sym rfl (.cons (.tmp rfl) .nil) uc sb (.inl rfl) rfl

end Go.Proofs.Ytcndgdjelopmaaa
