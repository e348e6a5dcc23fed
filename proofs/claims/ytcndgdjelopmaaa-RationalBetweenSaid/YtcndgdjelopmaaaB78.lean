/- The law of layer 2: no fraction of an interval is simpler than the simplest one. -/
import Derived.Test.YtcndgdjelopmaaaB77
namespace Go.Proofs.Ytcndgdjelopmaaa
open Go.Hp
variable {G : World} {U : UH} {M : MH}

theorem best_between {lo hi q y : Rat} (hb : Best lo hi q) (h1 : lo < y) (h2 : y ≤ hi) (hd : q.den = y.den) (hne : q ≠ y) : q.den = 1 ∧ q.abs < y.abs := by
  obtain ⟨b1, b2, b3, b4⟩ := hb
  have i1 := inD_self b1 b2
  have i2 := inD_self h1 h2
  rw [← hd] at i2
  have hnum : q.num ≠ y.num := fun e => hne (Rat.ext e hd)
  have hd1 : q.den = 1 := by
    rcases Nat.lt_or_ge q.den 2 with h | h
    · have := q.den_pos; omega
    · exfalso
      have hc : ∃ j, InD lo hi (q.den - 1) j := by
        rcases Int.lt_trichotomy q.num y.num with h5 | h5 | h5
        · exact no_two h i1 i2 h5
        · exact absurd h5 hnum
        · exact no_two h i2 i1 h5
      obtain ⟨j, hj⟩ := hc
      obtain ⟨f1, f2⟩ := inD_frac (by omega) hj
      have h3 := b3 _ f1 f2
      have h4 : (Rat.divInt j ((q.den - 1 : Nat) : Int)).den ≤ q.den - 1 := by
        rw [Rat.den_divInt, if_neg (by omega), Int.natAbs_natCast]
        exact Nat.div_le_self _ _
      omega
  refine ⟨hd1, ?_⟩
  have hyd : y.den = 1 := by omega
  have a1 := b4 hd1 y h1 h2 hyd
  rw [hd1] at i1 i2
  have hlt : q.num.natAbs < y.num.natAbs := by
    rcases Nat.lt_or_ge q.num.natAbs y.num.natAbs with h | h
    · exact h
    · exfalso
      have h0 : InD lo hi 1 0 := by
        obtain ⟨u1, u2⟩ := i1
        obtain ⟨w1, w2⟩ := i2
        exact ⟨by omega, by omega⟩
      obtain ⟨f1, f2⟩ := inD_frac (Nat.le_refl 1) h0
      rw [Rat.zero_divInt] at f1 f2
      have : q.num.natAbs ≤ 0 := b4 hd1 0 f1 f2 rfl
      omega
  rw [Rat.lt_iff, rat_abs_num', rat_abs_num', rat_abs_den', rat_abs_den', hd1, hyd]
  omega

theorem RationalBetween_ct {a b c : QV} {p q r : Rat} (ha : a.rep U M p) (hb : b.rep U M q) (hc : c.rep U M r) :
    Ct Try.prog 5 [a.v, b.v, c.v] G U M fun v _ _ => v = .bool true := by
  refine ct_of_st Try.func5 rfl rfl rfl rfl ?_
  repeat (first | refine run_S ?_ | refine w_box (fun _ => ?_) | refine w_al (fun _ => ?_))
  refine sl_call rfl rfl rfl rfl rfl rfl (fun _ => awake2_ct) ?_
  rintro v U1 D hU ⟨rfl, -, rfl⟩
  repeat (first | refine run_S ?_ | refine w_box (fun _ => ?_) | refine w_al (fun _ => ?_))
  refine sl_bslice (vs := [a, b, c].map QV.v) sym rfl rfl rfl rfl rfl rfl qvs_size rfl rfl rfl rfl rfl rfl (fun bo => ?_)
  repeat (first | refine run_S ?_ | refine w_box (fun _ => ?_) | refine w_al (fun _ => ?_))
  refine sl_call rfl rfl rfl rfl rfl rfl (fun _ => long2_ct (qvs_head.app _) rfl (by decide)) ?_
  rintro v U' D hU' ⟨l, rfl, hr, rfl, rfl⟩
  repeat (first | refine run_S ?_ | refine w_box (fun _ => ?_) | refine w_al (fun _ => ?_))
  cases l
  · have hna := hr rfl a (by simp)
    have hnb := hr rfl b (by simp)
    have hnc := hr rfl c (by simp)
    have sa := ha.sz hna (by decide)
    have sbb := hb.sz hnb (by decide)
    have sc := hc.sz hnc (by decide)
    repeat (first | refine run_S ?_ | refine w_box (fun _ => ?_) | refine w_al (fun _ => ?_))
    refine sl_call rfl rfl rfl rfl rfl rfl (fun _ => rqCmp_ct (ha.up uc sb) (by omega) (hb.up uc sb) (by omega)) ?_
    rintro v _ D hU ⟨rfl, -, rfl⟩
    repeat (first | refine run_S ?_ | refine w_box (fun _ => ?_) | refine w_al (fun _ => ?_))
    refine sl_gdec rfl rfl (fun h => ?_) (fun h => ?_)
    · repeat (first | refine run_S ?_ | refine w_box (fun _ => ?_) | refine w_al (fun _ => ?_))
      exact sk_ret [] sym rfl (.cons (.tmp rfl) .nil) uc sb (.inl rfl) rfl
    have hlt : p < q := rcmp_lt.1 (by omega)
    repeat (first | refine run_S ?_ | refine w_box (fun _ => ?_) | refine w_al (fun _ => ?_))
    refine sl_call rfl rfl rfl rfl rfl rfl (fun _ => rqCmp_ct (hb.up uc sb) (by omega) (hc.up uc sb) (by omega)) ?_
    rintro v _ D hU ⟨rfl, -, rfl⟩
    repeat (first | refine run_S ?_ | refine w_box (fun _ => ?_) | refine w_al (fun _ => ?_))
    refine st_dec rfl (fun h2 => ?_) (fun h2 => ?_)
    · repeat (first | refine run_S ?_ | refine w_box (fun _ => ?_) | refine w_al (fun _ => ?_))
      exact sk_ret [] sym rfl (.cons (.tmp rfl) .nil) uc sb (.inl rfl) rfl
    have hle : q ≤ r := by
      by_cases e : r < q
      · exact absurd (rcmp_gt.2 e) h2
      · grind
    repeat (first | refine run_S ?_ | refine w_box (fun _ => ?_) | refine w_al (fun _ => ?_))
    refine sl_call rfl rfl rfl rfl rfl rfl (fun _ => Simplest_ct (K := 12) (ha.up uc sb) hna (hc.up uc sb) hnc (by decide) (by decide)) ?_
    rintro v U2 D hU2 ⟨x, e, rfl, -, hx1, rfl⟩
    obtain ⟨rfl, s, hs, hbest⟩ := hx1 (by grind)
    have ss := hbest.sz sa sc
    have hden := hbest.2.2.1 q hlt hle
    repeat (first | refine run_S ?_ | refine w_box (fun _ => ?_) | refine w_al (fun _ => ?_))
    refine sl_call rfl rfl rfl rfl rfl rfl (fun _ => (qNormal_ct (hb.up uc sb) (by omega)).settle) ?_
    rintro v Uh3 D hU ⟨rfl, _, _, ⟨xh3, rfl, h3, -⟩, -, -, hs⟩
    replace h3 := h3.sett hs
    clear hs
    repeat (first | refine run_S ?_ | refine w_box (fun _ => ?_) | refine w_al (fun _ => ?_))
    refine sl_gdec rfl rfl (fun h => absurd rfl h) (fun _ => ?_)
    repeat (first | refine run_S ?_ | refine w_box (fun _ => ?_) | refine w_al (fun _ => ?_))
    refine sl_call rfl rfl rfl rfl rfl rfl (fun _ => rCmp_ct (hs.2.rep.up uc sb) (hs.2.le ss.2 (by omega)) (h3.2.rep.up uc sb) (h3.2.le sbb.2 (by omega))) ?_
    rintro v U' D hU ⟨rfl, rfl, rfl⟩
    repeat (first | refine run_S ?_ | refine w_box (fun _ => ?_) | refine w_al (fun _ => ?_))
    have hs0 : ((s.den : Int) - (q.den : Int)).sign ≤ 0 := by
      by_cases e : (s.den : Int) - (q.den : Int) = 0
      · rw [e]; decide
      · rw [Int.sign_eq_neg_one_of_neg (by omega)]; decide
    refine st_dec rfl (fun h => absurd h (by omega)) (fun _ => ?_)
    repeat (first | refine run_S ?_ | refine w_box (fun _ => ?_) | refine w_al (fun _ => ?_))
    refine sl_call rfl rfl rfl rfl rfl rfl (fun _ => rCmp_ct (hs.2.rep.up uc sb) (hs.2.le ss.2 (by omega)) (h3.2.rep.up uc sb) (h3.2.le sbb.2 (by omega))) ?_
    rintro v U' D hU ⟨rfl, rfl, rfl⟩
    repeat (first | refine run_S ?_ | refine w_box (fun _ => ?_) | refine w_al (fun _ => ?_))
    refine sl_gdec rfl rfl (fun h => ?_) (fun h => ?_)
    · repeat (first | refine run_S ?_ | refine w_box (fun _ => ?_) | refine w_al (fun _ => ?_))
      exact sk_ret [] sym rfl (.cons (.tmp rfl) .nil) uc sb (.inl rfl) rfl
    have hde : s.den = q.den := by
      rcases Nat.lt_or_ge s.den q.den with h5 | h5
      · exact absurd (by rw [Int.sign_eq_neg_one_of_neg (by omega)]; decide) h
      · omega
    repeat (first | refine run_S ?_ | refine w_box (fun _ => ?_) | refine w_al (fun _ => ?_))
    refine sl_call rfl rfl rfl rfl rfl rfl (fun _ => rqSame_ct (hs.up uc sb) (h3.up uc sb)) ?_
    rintro v U' D hU ⟨rfl, rfl, rfl⟩
    repeat (first | refine run_S ?_ | refine w_box (fun _ => ?_) | refine w_al (fun _ => ?_))
    by_cases hsq : s = q
    · rw [decide_eq_true hsq]
      repeat (first | refine run_S ?_ | refine w_box (fun _ => ?_) | refine w_al (fun _ => ?_))
      exact sk_ret [] sym rfl (.cons (.tmp rfl) .nil) uc sb (.inl rfl) rfl
    · rw [decide_eq_false hsq]
      obtain ⟨hd1, habs⟩ := best_between hbest hlt hle hde hsq
      repeat (first | refine run_S ?_ | refine w_box (fun _ => ?_) | refine w_al (fun _ => ?_))
      refine st_draw [0, 1, 2, 3, 4, 5, 7, 6, 8, 9, 10, 11, 12] sym (by kernel_rfl) ?_
      repeat (first | refine run_S ?_ | refine w_box (fun _ => ?_) | refine w_al (fun _ => ?_))
      refine sl_call rfl rfl rfl rfl rfl rfl (fun _ => (rOf_ct (z := 1) (by decide) (by decide)).settle) ?_
      rintro v Uh4 D hU ⟨rfl, _, _, ⟨xh4, rfl, h4, -⟩, -, -, hs⟩
      replace h4 := h4.sett hs
      clear hs
      repeat (first | refine run_S ?_ | refine w_box (fun _ => ?_) | refine w_al (fun _ => ?_))
      refine sl_call rfl rfl rfl rfl rfl rfl (fun _ => rSame_cz (hs.2.up uc sb) (h4.up uc sb)) ?_
      rintro v U' D hU ⟨rfl, rfl, rfl⟩
      repeat (first | refine run_S ?_ | refine w_box (fun _ => ?_) | refine w_al (fun _ => ?_))
      rw [decide_eq_true (show (s.den : Int) = 1 by omega)]
      repeat (first | refine run_S ?_ | refine w_box (fun _ => ?_) | refine w_al (fun _ => ?_))
      refine sl_call rfl rfl rfl rfl rfl rfl (fun _ => (qAbs_ct (hs.rep.up uc sb) (hs.le (ss) (by omega))).settle) ?_
      rintro v Uh5 D hU ⟨rfl, _, _, ⟨xh5, rfl, h5, -⟩, -, -, hs⟩
      replace h5 := h5.sett hs
      clear hs
      repeat (first | refine run_S ?_ | refine w_box (fun _ => ?_) | refine w_al (fun _ => ?_))
      refine sl_call rfl rfl rfl rfl rfl rfl (fun _ => (qAbs_ct (h3.rep.up uc sb) (h3.le (sbb) (by omega))).settle) ?_
      rintro v Uh6 D hU ⟨rfl, _, _, ⟨xh6, rfl, h6, -⟩, -, -, hs⟩
      replace h6 := h6.sett hs
      clear hs
      repeat (first | refine run_S ?_ | refine w_box (fun _ => ?_) | refine w_al (fun _ => ?_))
      have sabs : ∀ {t : Rat} {k : Nat}, Szq t k → Szq t.abs k := fun h => ⟨by rw [rat_abs_num']; exact h.1.abs, by rw [rat_abs_den']; exact h.2⟩
      refine sl_call rfl rfl rfl rfl rfl rfl (fun _ => qCmp_ct (h5.rep.up uc sb) (h5.le (sabs ss) (by omega)) (h6.rep.up uc sb) (h6.le (sabs sbb) (by omega))) ?_
      rintro v _ D hU ⟨rfl, -, rfl⟩
      repeat (first | refine run_S ?_ | refine w_box (fun _ => ?_) | refine w_al (fun _ => ?_))
      exact sk_ret [] sym rfl (.cons (.tmp rfl) .nil) uc sb (.inl rfl) (tup_dec (rcmp_lt.2 habs))
  · repeat (first | refine run_S ?_ | refine w_box (fun _ => ?_) | refine w_al (fun _ => ?_))
    exact sk_ret [] sym rfl (.cons (.tmp rfl) .nil) uc sb (.inl rfl) rfl

end Go.Proofs.Ytcndgdjelopmaaa
