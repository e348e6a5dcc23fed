/- Walks of the reference of layer 2: powers; the law on powers. -/
import Derived.Test.YtcndgdjelopmaaaB79
namespace Go.Proofs.Ytcndgdjelopmaaa
open Go.Hp
variable {G : World} {U : UH} {M : MH}

theorem abs_one {q : Rat} : q.abs = 1 ↔ q = 1 ∨ q = -1 := by
  rw [rat_abs']
  constructor
  · intro h
    split at h
    · right; grind
    · left; exact h
  · rintro (rfl | rfl)
    · rfl
    · rfl
theorem plain_iff {q : Rat} : qbl q ≤ 1 ↔ q = 0 ∨ q.abs = 1 := by
  constructor
  · intro h
    rcases plain_cases h with h | h | h
    · exact .inl h
    · exact .inr (abs_one.2 (.inl h))
    · exact .inr (abs_one.2 (.inr h))
  · rintro (rfl | h)
    · decide
    · rcases abs_one.1 h with rfl | rfl
      · decide
      · decide

theorem rqPow_ct {x : QV} {q : Rat} {n : Int} (hx : x.rep U M q) (hn : x.le 1000000) (h0 : -9223372036854775808 ≤ n) (h1 : n ≤ 9223372036854775807) :
    Ct Try.prog 57 [x.v, .int .i64 n] G U M fun v U' D => ∃ (r : QV) (e : Int), v = .tuple #[r.v, .int .i64 e] ∧ (n < 0 ∧ q = 0 → e = 5) ∧
      (¬ (n < 0 ∧ q = 0) → Big q n → e = 7) ∧ (¬ (n < 0 ∧ q = 0) → ¬ Big q n → e = 0 ∧ r.nrm U' [] (q ^ n)) ∧ D = [] := by
  have s1 := hx.sz hn (by decide)
  have hs := qbl_le s1
  have hbn : blen q.num.natAbs ≤ qbl q := Nat.le_max_left _ _
  have hbd : blen (q.den : Int).natAbs ≤ qbl q := Nat.le_max_right _ _
  refine ct_of_st Try.func57 rfl rfl rfl rfl ?_
  repeat (first | refine run_S ?_ | refine w_box (fun _ => ?_) | refine w_al (fun _ => ?_))
  rename_i b2 b4
  refine sl_call rfl rfl rfl rfl rfl rfl (fun _ => rqNormal_ct (hx.up uc sb) (by omega)) ?_
  rintro v Uh2 D hU ⟨xh2, rfl, h2, rfl⟩
  repeat (first | refine run_S ?_ | refine w_box (fun _ => ?_) | refine w_al (fun _ => ?_))
  rename_i b6
  refine sl_call rfl rfl rfl rfl rfl rfl (fun _ => rqSign_ct (h2.rep.up uc sb) (h2.le (s1) (by omega))) ?_
  rintro v U' D hU ⟨rfl, rfl, rfl⟩
  repeat (first | refine run_S ?_ | refine w_box (fun _ => ?_) | refine w_al (fun _ => ?_))
  by_cases hq0 : q = 0
  · subst hq0
    have hbig : ¬ Big 0 n := fun h => by have := h.1; revert this; decide
    rw [show (0 : Rat).num.sign = 0 from rfl]
    refine sl_gdec rfl rfl (fun _ => ?_) (fun h => absurd rfl h)
    repeat (first | refine run_S ?_ | refine w_box (fun _ => ?_) | refine w_al (fun _ => ?_))
    refine sl_call rfl rfl rfl rfl rfl rfl (fun _ => rqSign_ct (h2.rep.up uc sb) (h2.le (s1) (by omega))) ?_
    rintro v U' D hU ⟨rfl, rfl, rfl⟩
    repeat (first | refine run_S ?_ | refine w_box (fun _ => ?_) | refine w_al (fun _ => ?_))
    rw [show (0 : Rat).num.sign = 0 from rfl]
    refine sl_gdec rfl rfl (fun _ => ?_) (fun h => absurd rfl h)
    repeat (first | refine run_S ?_ | refine w_box (fun _ => ?_) | refine w_al (fun _ => ?_))
    refine st_dec rfl (fun h3 => ?_) (fun h3 => ?_)
    · repeat (first | refine run_S ?_ | refine w_box (fun _ => ?_) | refine w_al (fun _ => ?_))
      exact sk_ret [] sym rfl (.cons (.cell 1 rfl rfl rfl) (.cons (.tmp rfl) .nil)) uc sb (.inl rfl) ⟨zeroQV, 5, rfl, fun _ => rfl, fun h => absurd ⟨h3, rfl⟩ h, fun h => absurd ⟨h3, rfl⟩ h, rfl⟩
    repeat (first | refine run_S ?_ | refine w_box (fun _ => ?_) | refine w_al (fun _ => ?_))
    refine sl_call rfl rfl rfl rfl rfl rfl (fun _ => rqSign_ct (h2.rep.up uc sb) (h2.le (s1) (by omega))) ?_
    rintro v U' D hU ⟨rfl, rfl, rfl⟩
    repeat (first | refine run_S ?_ | refine w_box (fun _ => ?_) | refine w_al (fun _ => ?_))
    rw [show (0 : Rat).num.sign = 0 from rfl]
    refine sl_gdec rfl rfl (fun _ => ?_) (fun h => absurd rfl h)
    repeat (first | refine run_S ?_ | refine w_box (fun _ => ?_) | refine w_al (fun _ => ?_))
    refine sl_gdec rfl rfl (fun h4 => ?_) (fun h4 => ?_)
    · repeat (first | refine run_S ?_ | refine w_box (fun _ => ?_) | refine w_al (fun _ => ?_))
      exact sk_ret [] sym rfl (.cons (.cell 1 rfl rfl rfl) (.cons (.tmp rfl) .nil)) uc sb (.inl rfl) ⟨xh2, 0, rfl, fun h => absurd h.1 h3, fun _ h => absurd h hbig, fun _ _ => ⟨rfl, by rw [zero_pow' (by omega), if_neg (by omega)]; exact h2.up uc sb⟩, rfl⟩
    · repeat (first | refine run_S ?_ | refine w_box (fun _ => ?_) | refine w_al (fun _ => ?_))
      refine sl_call rfl rfl rfl rfl rfl rfl (fun _ => rqSign_ct (h2.rep.up uc sb) (h2.le (s1) (by omega))) ?_
      rintro v U' D hU ⟨rfl, rfl, rfl⟩
      repeat (first | refine run_S ?_ | refine w_box (fun _ => ?_) | refine w_al (fun _ => ?_))
      rw [show (0 : Rat).num.sign = 0 from rfl]
      refine sl_gdec rfl rfl (fun h => absurd h (by decide)) (fun _ => ?_)
      repeat (first | refine run_S ?_ | refine w_box (fun _ => ?_) | refine w_al (fun _ => ?_))
      refine sl_call rfl rfl rfl rfl rfl rfl (fun _ => rqOf_ct (z := 1) (by decide) (by decide)) ?_
      rintro v Uh5 D hU ⟨xh5, rfl, h5, rfl⟩
      repeat (first | refine run_S ?_ | refine w_box (fun _ => ?_) | refine w_al (fun _ => ?_))
      exact sk_ret [] sym rfl (.cons (.cell 1 rfl rfl rfl) (.cons (.tmp rfl) .nil)) uc sb (.inl rfl) ⟨xh5, 0, rfl, fun h => absurd h.1 h3, fun _ h => absurd h hbig, fun _ _ => ⟨rfl, by rw [zero_pow' (by omega), if_pos (by omega)]; exact h5⟩, rfl⟩
  have hok : ¬ (n < 0 ∧ q = 0) := fun h => hq0 h.2
  have hsg : q.num.sign ≠ 0 := fun h => hq0 (rat_num_zero.1 (Int.sign_eq_zero_iff_zero.1 h))
  refine sl_gdec rfl rfl (fun h => absurd h hsg) (fun _ => ?_)
  repeat (first | refine run_S ?_ | refine w_box (fun _ => ?_) | refine w_al (fun _ => ?_))
  refine sl_call rfl rfl rfl rfl rfl rfl (fun _ => rqAbs_ct (h2.rep.up uc sb) (h2.le (s1) (by omega))) ?_
  rintro v Uh3 D hU ⟨xh3, rfl, h3, rfl⟩
  repeat (first | refine run_S ?_ | refine w_box (fun _ => ?_) | refine w_al (fun _ => ?_))
  refine sl_call rfl rfl rfl rfl rfl rfl (fun _ => rqOf_ct (z := 1) (by decide) (by decide)) ?_
  rintro v Uh4 D hU ⟨xh4, rfl, h4, rfl⟩
  repeat (first | refine run_S ?_ | refine w_box (fun _ => ?_) | refine w_al (fun _ => ?_))
  refine sl_call rfl rfl rfl rfl rfl rfl (fun _ => rqSame_ct (h3.up uc sb) (h4.up uc sb)) ?_
  rintro v U' D hU ⟨rfl, rfl, rfl⟩
  repeat (first | refine run_S ?_ | refine w_box (fun _ => ?_) | refine w_al (fun _ => ?_))
  rw [show ((1 : Int) : Rat) = 1 from rfl]
  refine sl_call rfl rfl rfl rfl rfl rfl (fun _ => rqSign_ct (h2.rep.up uc sb) (h2.le (s1) (by omega))) ?_
  rintro v U' D hU ⟨rfl, rfl, rfl⟩
  repeat (first | refine run_S ?_ | refine w_box (fun _ => ?_) | refine w_al (fun _ => ?_))
  refine sl_gdec rfl rfl (fun h => absurd h hsg) (fun _ => ?_)
  repeat (first | refine run_S ?_ | refine w_box (fun _ => ?_) | refine w_al (fun _ => ?_))
  by_cases ha : q.abs = 1
  · have hpl := plain_iff.2 (.inr ha)
    have hbig : ¬ Big q n := fun h => by have := h.1; omega
    rw [decide_eq_true ha]
    repeat (first | refine run_S ?_ | refine w_box (fun _ => ?_) | refine w_al (fun _ => ?_))
    refine sl_call rfl rfl rfl rfl rfl rfl (fun _ => rqSign_ct (h2.rep.up uc sb) (h2.le (s1) (by omega))) ?_
    rintro v U' D hU ⟨rfl, rfl, rfl⟩
    repeat (first | refine run_S ?_ | refine w_box (fun _ => ?_) | refine w_al (fun _ => ?_))
    refine sl_gdec rfl rfl (fun h => absurd h hsg) (fun _ => ?_)
    repeat (first | refine run_S ?_ | refine w_box (fun _ => ?_) | refine w_al (fun _ => ?_))
    refine sl_gb rfl rfl (fun h => (by cases h)) (fun _ => ?_)
    repeat (first | refine run_S ?_ | refine w_box (fun _ => ?_) | refine w_al (fun _ => ?_))
    refine sl_call rfl rfl rfl rfl rfl rfl (fun _ => rqSign_ct (h2.rep.up uc sb) (h2.le (s1) (by omega))) ?_
    rintro v U' D hU ⟨rfl, rfl, rfl⟩
    repeat (first | refine run_S ?_ | refine w_box (fun _ => ?_) | refine w_al (fun _ => ?_))
    rcases abs_one.1 ha with rfl | rfl
    · rw [show (1 : Rat).num.sign = 1 from rfl]
      refine sl_gdec rfl rfl (fun h => absurd h (by decide)) (fun _ => ?_)
      repeat (first | refine run_S ?_ | refine w_box (fun _ => ?_) | refine w_al (fun _ => ?_))
      refine sl_call rfl rfl rfl rfl rfl rfl (fun _ => rqOf_ct (z := 1) (by decide) (by decide)) ?_
      rintro v Uh5 D hU ⟨xh5, rfl, h5, rfl⟩
      repeat (first | refine run_S ?_ | refine w_box (fun _ => ?_) | refine w_al (fun _ => ?_))
      exact sk_ret [] sym rfl (.cons (.cell 1 rfl rfl rfl) (.cons (.tmp rfl) .nil)) uc sb (.inl rfl) ⟨xh5, 0, rfl, fun h => absurd h hok, fun _ h => absurd h hbig, fun _ _ => ⟨rfl, by rw [one_pow']; exact h5⟩, rfl⟩
    · rw [show (-1 : Rat).num.sign = -1 from rfl]
      have ht := Int.tmod_two_eq n
      have hd := Int.tdiv_mul_add_tmod n 2
      refine sl_gdec rfl rfl (fun _ => ?_) (fun h => absurd (by decide) h)
      repeat (first | refine run_S ?_ | refine w_box (fun _ => ?_) | refine w_al (fun _ => ?_))
      refine st_ne rfl (fun h5 => ?_) (fun h5 => ?_)
      · repeat (first | refine run_S ?_ | refine w_box (fun _ => ?_) | refine w_al (fun _ => ?_))
        exact sk_ret [] sym rfl (.cons (.cell 1 rfl rfl rfl) (.cons (.tmp rfl) .nil)) uc sb (.inl rfl) ⟨xh2, 0, rfl, fun h => absurd h hok, fun _ h => absurd h hbig, fun _ _ => ⟨rfl, by rw [mone_pow, if_neg (by omega)]; exact h2.up uc sb⟩, rfl⟩
      · repeat (first | refine run_S ?_ | refine w_box (fun _ => ?_) | refine w_al (fun _ => ?_))
        refine sl_call rfl rfl rfl rfl rfl rfl (fun _ => rqOf_ct (z := 1) (by decide) (by decide)) ?_
        rintro v Uh6 D hU ⟨xh6, rfl, h6, rfl⟩
        repeat (first | refine run_S ?_ | refine w_box (fun _ => ?_) | refine w_al (fun _ => ?_))
        exact sk_ret [] sym rfl (.cons (.cell 1 rfl rfl rfl) (.cons (.tmp rfl) .nil)) uc sb (.inl rfl) ⟨xh6, 0, rfl, fun h => absurd h hok, fun _ h => absurd h hbig, fun _ _ => ⟨rfl, by rw [mone_pow, if_pos (by omega)]; exact h6⟩, rfl⟩
  · have hs1 : 1 < qbl q := by
      rcases Nat.lt_or_ge 1 (qbl q) with h | h
      · exact h
      · rcases plain_iff.1 h with h | h
        · exact absurd h hq0
        · exact absurd h ha
    rw [decide_eq_false ha]
    repeat (first | refine run_S ?_ | refine w_box (fun _ => ?_) | refine w_al (fun _ => ?_))
    refine sl_call rfl rfl rfl rfl rfl rfl (fun _ => rqBits_ct (h2.rep.up uc sb) (h2.le (s1) (by omega))) ?_
    rintro v _ D hU ⟨rfl, -, rfl⟩
    repeat (first | refine run_S ?_ | refine w_box (fun _ => ?_) | refine w_al (fun _ => ?_))
    generalize hS : qbl q = s at *
    have hq : 1048576 / s ≤ 1048576 := Nat.div_le_self _ _
    have hneg : ∀ z : Int, -1048576 ≤ z → z ≤ 1048576 → IntKind.i64.wrap (0 - z) = -z := fun z a b => by rw [IntWalk.i64_in _ (by omega)]; omega
    refine sl_y (yl_quoN (m := 1048576) (n := s) rfl rfl rfl rfl rfl (by simp only [kmax]; omega) (by omega) rfl) rfl rfl rfl rfl ?_
    generalize hQ : 1048576 / s = Q at *
    repeat (first | refine run_S ?_ | refine w_box (fun _ => ?_) | refine w_al (fun _ => ?_))
    refine sl_gdec rfl rfl (fun h4 => ?_) (fun h4 => ?_)
    · have hbig : Big q n := ⟨by omega, by rw [hS, hQ]; omega⟩
      repeat (first | refine run_S ?_ | refine w_box (fun _ => ?_) | refine w_al (fun _ => ?_))
      exact sk_ret [] sym rfl (.cons (.cell 1 rfl rfl rfl) (.cons (.tmp rfl) .nil)) uc sb (.inl rfl) ⟨zeroQV, 7, rfl, fun h => absurd h hok, fun _ _ => rfl, fun _ h => absurd hbig h, rfl⟩
    repeat (first | refine run_S ?_ | refine w_box (fun _ => ?_) | refine w_al (fun _ => ?_))
    rw [hneg (Q : Int) (by omega) (by omega)]
    refine st_dec rfl (fun h5 => ?_) (fun h5 => ?_)
    · have hbig : Big q n := ⟨by omega, by rw [hS, hQ]; omega⟩
      repeat (first | refine run_S ?_ | refine w_box (fun _ => ?_) | refine w_al (fun _ => ?_))
      exact sk_ret [] sym rfl (.cons (.cell 1 rfl rfl rfl) (.cons (.tmp rfl) .nil)) uc sb (.inl rfl) ⟨zeroQV, 7, rfl, fun h => absurd h hok, fun _ _ => rfl, fun _ h => absurd hbig h, rfl⟩
    have hle : n.natAbs ≤ 1048576 / s := by rw [hQ]; omega
    have hbig : ¬ Big q n := fun h => by have := h.2; rw [hS, hQ] at this; omega
    have w1 := mul_div_le' (blen q.num.natAbs) s n.natAbs (by omega) hle hbn
    have w2 := mul_div_le' (blen (q.den : Int).natAbs) s n.natAbs (by omega) hle hbd
    have p1 : Sz (q.num ^ n.natAbs) 32769 := sz_pow (K := 32768) rfl (Nat.le_refl _) w1
    have p2 : Sz ((q.den : Int) ^ n.natAbs) 32769 := sz_pow (K := 32768) rfl (Nat.le_refl _) w2
    repeat (first | refine run_S ?_ | refine w_box (fun _ => ?_) | refine w_al (fun _ => ?_))
    refine st_dec rfl (fun h8 => ?_) (fun h8 => ?_)
    · repeat (first | refine run_S ?_ | refine w_box (fun _ => ?_) | refine w_al (fun _ => ?_))
      refine st_draw [0, 1, 2, 3, 5, 6, 7, 8, 4, 9, 10, 11, 12] sym (by kernel_rfl) ?_
      repeat (first | refine run_S ?_ | refine w_box (fun _ => ?_) | refine w_al (fun _ => ?_))
      rw [hneg n (by omega) (by omega), show -n = (n.natAbs : Int) by omega]
      refine sl_call rfl rfl rfl rfl rfl rfl (fun _ => (rRaised_ct (K := 32768) (h2.2.rep.up uc sb) (h2.2.le s1.2 (by omega)) (by omega) w2 (by decide)).settle) ?_
      rintro v Uh9 D hU ⟨rfl, _, _, ⟨xh9, rfl, h9, -⟩, -, -, hs⟩
      replace h9 := h9.sett hs
      clear hs
      repeat (first | refine run_S ?_ | refine w_box (fun _ => ?_) | refine w_al (fun _ => ?_))
      refine sl_call rfl rfl rfl rfl rfl rfl (fun _ => (rRaised_ct (K := 32768) (h2.1.rep.up uc sb) (h2.1.le s1.1 (by omega)) (by omega) w1 (by decide)).settle) ?_
      rintro v Uh10 D hU ⟨rfl, _, _, ⟨xh10, rfl, h10, -⟩, -, -, hs⟩
      replace h10 := h10.sett hs
      clear hs
      repeat (first | refine run_S ?_ | refine w_box (fun _ => ?_) | refine w_al (fun _ => ?_))
      refine sl_call rfl rfl rfl rfl rfl rfl (fun _ => rqOver_ct (h9.rep.up uc sb) (h9.le (p2) (by omega)) (h10.rep.up uc sb) (h10.le (p1) (by omega))) ?_
      rintro v Uh11 D hU ⟨xh11, rfl, h11, rfl⟩
      repeat (first | refine run_S ?_ | refine w_box (fun _ => ?_) | refine w_al (fun _ => ?_))
      exact sk_ret [] sym rfl (.cons (.cell 1 rfl rfl rfl) (.cons (.tmp rfl) .nil)) uc sb (.inl rfl) ⟨xh11, 0, rfl, fun h => absurd h hok, fun _ h => absurd h hbig, fun _ _ => ⟨rfl, by rw [qpow_div, if_pos h8]; exact h11⟩, rfl⟩
    · repeat (first | refine run_S ?_ | refine w_box (fun _ => ?_) | refine w_al (fun _ => ?_))
      refine st_draw [0, 1, 2, 4, 5, 6, 3, 7, 8, 9, 10] sym (by kernel_rfl) ?_
      repeat (first | refine run_S ?_ | refine w_box (fun _ => ?_) | refine w_al (fun _ => ?_))
      obtain ⟨k, rfl⟩ := Int.eq_ofNat_of_zero_le (a := n) (by omega)
      rw [Int.natAbs_natCast] at w1 w2 p1 p2
      refine sl_call rfl rfl rfl rfl rfl rfl (fun _ => (rRaised_ct (K := 32768) (h2.1.rep.up uc sb) (h2.1.le s1.1 (by omega)) (by omega) w1 (by decide)).settle) ?_
      rintro v Uh9 D hU ⟨rfl, _, _, ⟨xh9, rfl, h9, -⟩, -, -, hs⟩
      replace h9 := h9.sett hs
      clear hs
      repeat (first | refine run_S ?_ | refine w_box (fun _ => ?_) | refine w_al (fun _ => ?_))
      refine sl_call rfl rfl rfl rfl rfl rfl (fun _ => (rRaised_ct (K := 32768) (h2.2.rep.up uc sb) (h2.2.le s1.2 (by omega)) (by omega) w2 (by decide)).settle) ?_
      rintro v Uh10 D hU ⟨rfl, _, _, ⟨xh10, rfl, h10, -⟩, -, -, hs⟩
      replace h10 := h10.sett hs
      clear hs
      repeat (first | refine run_S ?_ | refine w_box (fun _ => ?_) | refine w_al (fun _ => ?_))
      refine sl_call rfl rfl rfl rfl rfl rfl (fun _ => rqOver_ct (h9.rep.up uc sb) (h9.le (p1) (by omega)) (h10.rep.up uc sb) (h10.le (p2) (by omega))) ?_
      rintro v Uh11 D hU ⟨xh11, rfl, h11, rfl⟩
      repeat (first | refine run_S ?_ | refine w_box (fun _ => ?_) | refine w_al (fun _ => ?_))
      exact sk_ret [] sym rfl (.cons (.cell 1 rfl rfl rfl) (.cons (.tmp rfl) .nil)) uc sb (.inl rfl) ⟨xh11, 0, rfl, fun h => absurd h hok, fun _ h => absurd h hbig, fun _ _ => ⟨rfl, by rw [qpow_div, if_neg h8, Int.natAbs_natCast]; exact h11⟩, rfl⟩

/-- The digits of which a fraction is made bound its binary digits. -/
theorem qbl_192 {a : QV} {q : Rat} (ha : a.rep U M q) (h : a.num.n + a.den.n ≤ 6) : qbl q ≤ 192 :=
  qbl_le (ha.sz (k := 6) ⟨by omega, by omega⟩ (by decide))

theorem not_big_small {q : Rat} {n : Int} (hq : qbl q ≤ 192) (hn : -120 ≤ n ∧ n ≤ 120) : ¬ Big q n := by
  rintro ⟨h1, h2⟩
  have h3 : 1048576 / 192 ≤ 1048576 / qbl q := Nat.div_le_div_left hq (by omega)
  have h4 : 1048576 / 192 = 5461 := by decide
  omega

theorem zpow_add' {q : Rat} {n k : Int} (h1 : ¬ (n < 0 ∧ q = 0)) (h2 : ¬ (k < 0 ∧ q = 0)) : q ^ n * q ^ k = q ^ (n + k) := by
  by_cases hq : q = 0
  · obtain ⟨a, rfl⟩ := Int.eq_ofNat_of_zero_le (a := n) (by
      by_cases h : n < 0
      · exact absurd ⟨h, hq⟩ h1
      · omega)
    obtain ⟨b, rfl⟩ := Int.eq_ofNat_of_zero_le (a := k) (by
      by_cases h : k < 0
      · exact absurd ⟨h, hq⟩ h2
      · omega)
    rw [show (a : Int) + (b : Int) = ((a + b : Nat) : Int) by omega, Rat.zpow_natCast, Rat.zpow_natCast, Rat.zpow_natCast, rat_pow_add]
  · exact (Rat.zpow_add hq n k).symm

theorem RationalPowers_ct {a : QV} {q : Rat} {n k : Int} (ha : a.rep U M q) (hn0 : -9223372036854775808 ≤ n) (hn1 : n ≤ 9223372036854775807) (hk0 : -9223372036854775808 ≤ k) (hk1 : k ≤ 9223372036854775807) :
    Ct Try.prog 10 [a.v, .int .i64 n, .int .i64 k] G U M fun v _ _ => v = .bool true := by
  refine ct_of_st Try.func10 rfl rfl rfl rfl ?_
  repeat (first | refine run_S ?_ | refine w_box (fun _ => ?_) | refine w_al (fun _ => ?_))
  rename_i b3
  refine sl_call rfl rfl rfl rfl rfl rfl (fun _ => awake2_ct) ?_
  rintro v U1 D hU ⟨rfl, -, rfl⟩
  repeat (first | refine run_S ?_ | refine w_box (fun _ => ?_) | refine w_al (fun _ => ?_))
  refine sl_bslice (vs := [a].map QV.v) sym rfl rfl rfl rfl rfl rfl qvs_size rfl rfl rfl rfl rfl rfl (fun bo => ?_)
  repeat (first | refine run_S ?_ | refine w_box (fun _ => ?_) | refine w_al (fun _ => ?_))
  refine sl_call rfl rfl rfl rfl rfl rfl (fun _ => long2_ct (qvs_head.app _) rfl (by decide)) ?_
  rintro v U' D hU' ⟨l, rfl, hr, rfl, rfl⟩
  repeat (first | refine run_S ?_ | refine w_box (fun _ => ?_) | refine w_al (fun _ => ?_))
  cases l
  · have hna := hr rfl a (by simp)
    repeat (first | refine run_S ?_ | refine w_box (fun _ => ?_) | refine w_al (fun _ => ?_))
    refine st_dec rfl (fun h => ?_) (fun h6 => ?_)
    · repeat (first | refine run_S ?_ | refine w_box (fun _ => ?_) | refine w_al (fun _ => ?_))
      exact sk_ret [] sym rfl (.cons (.tmp rfl) .nil) uc sb (.inl rfl) rfl
    have hbl := qbl_192 ha (by omega)
    repeat (first | refine run_S ?_ | refine w_box (fun _ => ?_) | refine w_al (fun _ => ?_))
    refine sl_call rfl rfl rfl rfl rfl rfl (fun _ => qPow_ct (ha.up uc sb) (by omega) hn0 hn1) ?_
    rintro v U2 D hU2 ⟨x, e, rfl, x1, x2, x3, rfl⟩
    repeat (first | refine run_O ?_ | refine w_box (fun _ => ?_) | refine w_al (fun _ => ?_))
    rename_i b7
    refine st_seq_cut (fun E U' M' => ¬ (1 < qbl q ∧ (60 < n ∨ n < -60)) ∧ E = [(3, .pointer (some ⟨b3, 0, none⟩)), (7, .pointer (some ⟨b7, 0, none⟩)), (8, .int .i64 e), (1, .int .i64 n), (2, .int .i64 k)] ∧ ULe U2 U' ∧ M' = (b7, .var x.v, 26) :: (bo, .arr ([a].map QV.v), 26) :: (b3, .var a.v, 26) :: M) ?_ ?_
    · try refine run_s ?_
      refine sl_call rfl rfl rfl rfl rfl rfl (fun _ => rqBits_ct (ha.up uc sb) (by omega)) ?_
      rintro v _ D hU ⟨rfl, -, rfl⟩
      repeat (first | refine run_S ?_ | refine w_box (fun _ => ?_) | refine w_al (fun _ => ?_))
      refine sl_gdec rfl rfl (fun h7 => ?_) (fun h7 => ?_)
      · have hs1 : 1 < qbl q := by omega
        have hq : 1048576 / qbl q ≤ 1048576 := Nat.div_le_self _ _
        have hneg : ∀ z : Int, -1048576 ≤ z → z ≤ 1048576 → IntKind.i64.wrap (0 - z) = -z := fun z a b => by rw [IntWalk.i64_in _ (by omega)]; omega
        have hok : ¬ (n < 0 ∧ q = 0) := fun h => by rw [h.2] at hs1; revert hs1; decide
        have hbigR : ¬ n ≤ ((1048576 / qbl q : Nat) : Int) ∨ n < -((1048576 / qbl q : Nat) : Int) → Big q n := fun h => ⟨hs1, by omega⟩
        repeat (first | refine run_S ?_ | refine w_box (fun _ => ?_) | refine w_al (fun _ => ?_))
        refine sl_gdec rfl rfl (fun h8 => ?_) (fun h8 => ?_)
        · repeat (first | refine run_S ?_ | refine w_box (fun _ => ?_) | refine w_al (fun _ => ?_))
          refine sl_call rfl rfl rfl rfl rfl rfl (fun _ => rqBits_ct (ha.up uc sb) (by omega)) ?_
          rintro v _ D hU ⟨rfl, -, rfl⟩
          repeat (first | refine run_S ?_ | refine w_box (fun _ => ?_) | refine w_al (fun _ => ?_))
          refine sl_y (yl_quoN (m := 1048576) (n := qbl q) rfl rfl rfl rfl rfl (by simp only [kmax]; omega) (by omega) rfl) rfl rfl rfl rfl ?_
          generalize hQ : 1048576 / qbl q = Q at *
          repeat (first | refine run_S ?_ | refine w_box (fun _ => ?_) | refine w_al (fun _ => ?_))
          refine sl_gdec rfl rfl (fun h9 => ?_) (fun h9 => ?_)
          · obtain ⟨rfl, rfl⟩ := x2 hok (hbigR (.inl (by omega)))
            repeat (first | refine run_S ?_ | refine w_box (fun _ => ?_) | refine w_al (fun _ => ?_))
            refine sl_gdec rfl rfl (fun _ => ?_) (fun h => absurd rfl h)
            repeat (first | refine run_S ?_ | refine w_box (fun _ => ?_) | refine w_al (fun _ => ?_))
            refine sl_call rfl rfl rfl rfl rfl rfl (fun _ => none2_ct) ?_
            rintro v U' D hU ⟨rfl, rfl, rfl⟩
            repeat (first | refine run_S ?_ | refine w_box (fun _ => ?_) | refine w_al (fun _ => ?_))
            exact sk_ret [] sym rfl (.cons (.tmp rfl) .nil) uc sb (.inl rfl) rfl
          repeat (first | refine run_S ?_ | refine w_box (fun _ => ?_) | refine w_al (fun _ => ?_))
          rw [hneg (Q : Int) (by omega) (by omega)]
          refine st_dec rfl (fun h10 => ?_) (fun h10 => ?_)
          · obtain ⟨rfl, rfl⟩ := x2 hok (hbigR (.inr (by omega)))
            repeat (first | refine run_S ?_ | refine w_box (fun _ => ?_) | refine w_al (fun _ => ?_))
            refine sl_gdec rfl rfl (fun _ => ?_) (fun h => absurd rfl h)
            repeat (first | refine run_S ?_ | refine w_box (fun _ => ?_) | refine w_al (fun _ => ?_))
            refine sl_call rfl rfl rfl rfl rfl rfl (fun _ => none2_ct) ?_
            rintro v U' D hU ⟨rfl, rfl, rfl⟩
            repeat (first | refine run_S ?_ | refine w_box (fun _ => ?_) | refine w_al (fun _ => ?_))
            exact sk_ret [] sym rfl (.cons (.tmp rfl) .nil) uc sb (.inl rfl) rfl
          · repeat (first | refine run_S ?_ | refine w_box (fun _ => ?_) | refine w_al (fun _ => ?_))
            exact sk_ret [] sym rfl (.cons (.tmp rfl) .nil) uc sb (.inl rfl) rfl
        repeat (first | refine run_S ?_ | refine w_box (fun _ => ?_) | refine w_al (fun _ => ?_))
        refine st_dec rfl (fun h8' => ?_) (fun h8' => ?_)
        · repeat (first | refine run_S ?_ | refine w_box (fun _ => ?_) | refine w_al (fun _ => ?_))
          refine sl_call rfl rfl rfl rfl rfl rfl (fun _ => rqBits_ct (ha.up uc sb) (by omega)) ?_
          rintro v _ D hU ⟨rfl, -, rfl⟩
          repeat (first | refine run_S ?_ | refine w_box (fun _ => ?_) | refine w_al (fun _ => ?_))
          refine sl_y (yl_quoN (m := 1048576) (n := qbl q) rfl rfl rfl rfl rfl (by simp only [kmax]; omega) (by omega) rfl) rfl rfl rfl rfl ?_
          generalize hQ : 1048576 / qbl q = Q at *
          repeat (first | refine run_S ?_ | refine w_box (fun _ => ?_) | refine w_al (fun _ => ?_))
          refine sl_gdec rfl rfl (fun h9 => ?_) (fun h9 => ?_)
          · obtain ⟨rfl, rfl⟩ := x2 hok (hbigR (.inl (by omega)))
            repeat (first | refine run_S ?_ | refine w_box (fun _ => ?_) | refine w_al (fun _ => ?_))
            refine sl_gdec rfl rfl (fun _ => ?_) (fun h => absurd rfl h)
            repeat (first | refine run_S ?_ | refine w_box (fun _ => ?_) | refine w_al (fun _ => ?_))
            refine sl_call rfl rfl rfl rfl rfl rfl (fun _ => none2_ct) ?_
            rintro v U' D hU ⟨rfl, rfl, rfl⟩
            repeat (first | refine run_S ?_ | refine w_box (fun _ => ?_) | refine w_al (fun _ => ?_))
            exact sk_ret [] sym rfl (.cons (.tmp rfl) .nil) uc sb (.inl rfl) rfl
          repeat (first | refine run_S ?_ | refine w_box (fun _ => ?_) | refine w_al (fun _ => ?_))
          rw [hneg (Q : Int) (by omega) (by omega)]
          refine st_dec rfl (fun h10 => ?_) (fun h10 => ?_)
          · obtain ⟨rfl, rfl⟩ := x2 hok (hbigR (.inr (by omega)))
            repeat (first | refine run_S ?_ | refine w_box (fun _ => ?_) | refine w_al (fun _ => ?_))
            refine sl_gdec rfl rfl (fun _ => ?_) (fun h => absurd rfl h)
            repeat (first | refine run_S ?_ | refine w_box (fun _ => ?_) | refine w_al (fun _ => ?_))
            refine sl_call rfl rfl rfl rfl rfl rfl (fun _ => none2_ct) ?_
            rintro v U' D hU ⟨rfl, rfl, rfl⟩
            repeat (first | refine run_S ?_ | refine w_box (fun _ => ?_) | refine w_al (fun _ => ?_))
            exact sk_ret [] sym rfl (.cons (.tmp rfl) .nil) uc sb (.inl rfl) rfl
          · repeat (first | refine run_S ?_ | refine w_box (fun _ => ?_) | refine w_al (fun _ => ?_))
            exact sk_ret [] sym rfl (.cons (.tmp rfl) .nil) uc sb (.inl rfl) rfl
        · repeat (first | refine run_S ?_ | refine w_box (fun _ => ?_) | refine w_al (fun _ => ?_))
          exact sk_cut (E' := [(3, .pointer (some ⟨b3, 0, none⟩)), (7, .pointer (some ⟨b7, 0, none⟩)), (8, .int .i64 e), (1, .int .i64 n), (2, .int .i64 k)]) ⟨rfl, rfl, rfl, rfl, rfl, trivial⟩ ⟨fun h => by omega, rfl, uc, rfl⟩
      · repeat (first | refine run_S ?_ | refine w_box (fun _ => ?_) | refine w_al (fun _ => ?_))
        exact sk_cut (E' := [(3, .pointer (some ⟨b3, 0, none⟩)), (7, .pointer (some ⟨b7, 0, none⟩)), (8, .int .i64 e), (1, .int .i64 n), (2, .int .i64 k)]) ⟨rfl, rfl, rfl, rfl, rfl, trivial⟩ ⟨fun h => by omega, rfl, uc, rfl⟩
    · rintro E U' M' ⟨hsm, rfl, hU3, rfl⟩
      have hnb : ¬ Big q n := fun h => by
        rcases Nat.lt_or_ge 1 (qbl q) with h7 | h7
        · exact not_big_small hbl (by omega) h
        · have := h.1; omega
      repeat (first | refine run_S ?_ | refine w_box (fun _ => ?_) | refine w_al (fun _ => ?_))
      refine sl_call rfl rfl rfl rfl rfl rfl (fun _ => rqPow_ct (ha.up uc sb) (by omega) hn0 hn1) ?_
      rintro v U4 D hU4 ⟨y, f, rfl, y1, y2, y3, rfl⟩
      repeat (first | refine run_O ?_ | refine w_box (fun _ => ?_) | refine w_al (fun _ => ?_))
      rename_i b10
      refine st_seq_cut (fun E U' M' => (f = 0 → ¬ (n < 0 ∧ q = 0)) ∧ E = [(3, .pointer (some ⟨b3, 0, none⟩)), (7, .pointer (some ⟨b7, 0, none⟩)), (11, .int .i64 f), (1, .int .i64 n), (2, .int .i64 k)] ∧ ULe U4 U' ∧
        M' = (b10, .var y.v, 26) :: (b7, .var x.v, 26) :: (bo, .arr ([a].map QV.v), 26) :: (b3, .var a.v, 26) :: M) ?_ ?_
      · by_cases hok : n < 0 ∧ q = 0
        · obtain ⟨rfl, rfl⟩ := x1 hok
          obtain rfl := y1 hok
          repeat (first | refine run_S ?_ | refine w_box (fun _ => ?_) | refine w_al (fun _ => ?_))
          refine sl_gdec rfl rfl (fun h => absurd rfl h) (fun _ => ?_)
          repeat (first | refine run_S ?_ | refine w_box (fun _ => ?_) | refine w_al (fun _ => ?_))
          refine sl_gdec rfl rfl (fun h => absurd h (by decide)) (fun _ => ?_)
          repeat (first | refine run_S ?_ | refine w_box (fun _ => ?_) | refine w_al (fun _ => ?_))
          refine sl_gdec rfl rfl (fun _ => ?_) (fun h => absurd (by decide) h)
          repeat (first | refine run_S ?_ | refine w_box (fun _ => ?_) | refine w_al (fun _ => ?_))
          refine sl_call rfl rfl rfl rfl rfl rfl (fun _ => none2_ct) ?_
          rintro v U' D hU ⟨rfl, rfl, rfl⟩
          repeat (first | refine run_S ?_ | refine w_box (fun _ => ?_) | refine w_al (fun _ => ?_))
          exact sk_cut (E' := [(3, .pointer (some ⟨b3, 0, none⟩)), (7, .pointer (some ⟨b7, 0, none⟩)), (11, .int .i64 5), (1, .int .i64 n), (2, .int .i64 k)]) ⟨rfl, rfl, rfl, rfl, rfl, trivial⟩ ⟨fun h => absurd h (by decide), rfl, uc, rfl⟩
        · obtain ⟨rfl, hx⟩ := x3 hok hnb
          obtain ⟨rfl, hy⟩ := y3 hok hnb
          repeat (first | refine run_S ?_ | refine w_box (fun _ => ?_) | refine w_al (fun _ => ?_))
          refine sl_gdec rfl rfl (fun h => absurd rfl h) (fun _ => ?_)
          repeat (first | refine run_S ?_ | refine w_box (fun _ => ?_) | refine w_al (fun _ => ?_))
          refine sl_gdec rfl rfl (fun _ => ?_) (fun h => absurd rfl h)
          repeat (first | refine run_S ?_ | refine w_box (fun _ => ?_) | refine w_al (fun _ => ?_))
          refine sl_call rfl rfl rfl rfl rfl rfl (fun _ => rqSameT_ct (hx.up uc sb) (hy.up uc sb)) ?_
          rintro v U' D hU ⟨rfl, rfl, rfl⟩
          repeat (first | refine run_S ?_ | refine w_box (fun _ => ?_) | refine w_al (fun _ => ?_))
          refine sl_gdec rfl rfl (fun h => absurd rfl h) (fun _ => ?_)
          repeat (first | refine run_S ?_ | refine w_box (fun _ => ?_) | refine w_al (fun _ => ?_))
          exact sk_cut (E' := [(3, .pointer (some ⟨b3, 0, none⟩)), (7, .pointer (some ⟨b7, 0, none⟩)), (11, .int .i64 0), (1, .int .i64 n), (2, .int .i64 k)]) ⟨rfl, rfl, rfl, rfl, rfl, trivial⟩ ⟨fun _ => hok, rfl, uc, rfl⟩
      · rintro E U' M' ⟨hf, rfl, hU5, rfl⟩
        repeat (first | refine run_S ?_ | refine w_box (fun _ => ?_) | refine w_al (fun _ => ?_))
        refine sl_gdec rfl rfl (fun _ => ?_) (fun e1 => ?_)
        · repeat (first | refine run_S ?_ | refine w_box (fun _ => ?_) | refine w_al (fun _ => ?_))
          exact sk_ret [] sym rfl (.cons (.tmp rfl) .nil) uc sb (.inl rfl) rfl
        repeat (first | refine run_S ?_ | refine w_box (fun _ => ?_) | refine w_al (fun _ => ?_))
        refine sl_gdec rfl rfl (fun _ => ?_) (fun e2 => ?_)
        · repeat (first | refine run_S ?_ | refine w_box (fun _ => ?_) | refine w_al (fun _ => ?_))
          exact sk_ret [] sym rfl (.cons (.tmp rfl) .nil) uc sb (.inl rfl) rfl
        repeat (first | refine run_S ?_ | refine w_box (fun _ => ?_) | refine w_al (fun _ => ?_))
        refine sl_gdec rfl rfl (fun _ => ?_) (fun e3 => ?_)
        · repeat (first | refine run_S ?_ | refine w_box (fun _ => ?_) | refine w_al (fun _ => ?_))
          exact sk_ret [] sym rfl (.cons (.tmp rfl) .nil) uc sb (.inl rfl) rfl
        repeat (first | refine run_S ?_ | refine w_box (fun _ => ?_) | refine w_al (fun _ => ?_))
        refine sl_gdec rfl rfl (fun _ => ?_) (fun e4 => ?_)
        · repeat (first | refine run_S ?_ | refine w_box (fun _ => ?_) | refine w_al (fun _ => ?_))
          exact sk_ret [] sym rfl (.cons (.tmp rfl) .nil) uc sb (.inl rfl) rfl
        repeat (first | refine run_S ?_ | refine w_box (fun _ => ?_) | refine w_al (fun _ => ?_))
        refine st_dec rfl (fun _ => ?_) (fun e5 => ?_)
        · repeat (first | refine run_S ?_ | refine w_box (fun _ => ?_) | refine w_al (fun _ => ?_))
          exact sk_ret [] sym rfl (.cons (.tmp rfl) .nil) uc sb (.inl rfl) rfl
        have hok := hf (by omega)
        obtain ⟨-, hx⟩ := x3 hok hnb
        have hw : ∀ m : Int, -60 ≤ m → m ≤ 60 → Szq (q ^ m) 361 := fun m m1 m2 => szq_pow (K := 360) (by
          have h11 : qbl q * m.natAbs ≤ 192 * 60 := Nat.mul_le_mul hbl (by omega)
          omega)
        repeat (first | refine run_S ?_ | refine w_box (fun _ => ?_) | refine w_al (fun _ => ?_))
        refine sl_call rfl rfl rfl rfl rfl rfl (fun _ => qPow_ct (n := k) (ha.up uc sb) (by omega) hk0 hk1) ?_
        rintro v U6 D hU6 ⟨z, g, rfl, z1, -, z3, rfl⟩
        repeat (first | refine run_S ?_ | refine w_box (fun _ => ?_) | refine w_al (fun _ => ?_))
        refine sl_call rfl rfl rfl rfl rfl rfl (fun _ => qPow_ct (n := n + k) (ha.up uc sb) (by omega) (by omega) (by omega)) ?_
        rintro v U7 D hU7 ⟨u, h, rfl, u1, -, u3, rfl⟩
        by_cases hk : k < 0 ∧ q = 0
        · obtain ⟨rfl, rfl⟩ := z1 hk
          repeat (first | refine run_S ?_ | refine w_box (fun _ => ?_) | refine w_al (fun _ => ?_))
          refine sl_gdec rfl rfl (fun _ => ?_) (fun h => absurd (by decide) h)
          repeat (first | refine run_S ?_ | refine w_box (fun _ => ?_) | refine w_al (fun _ => ?_))
          refine sl_call rfl rfl rfl rfl rfl rfl (fun _ => qSign_ct (ha.up uc sb) (by omega)) ?_
          rintro v U' D hU ⟨rfl, rfl, rfl⟩
          repeat (first | refine run_S ?_ | refine w_box (fun _ => ?_) | refine w_al (fun _ => ?_))
          exact sk_ret [] sym rfl (.cons (.tmp rfl) .nil) uc sb (.inl rfl) (tup_dec (by rw [hk.2]; rfl))
        obtain ⟨rfl, hz⟩ := z3 hk (not_big_small hbl (by omega))
        repeat (first | refine run_S ?_ | refine w_box (fun _ => ?_) | refine w_al (fun _ => ?_))
        refine sl_gdec rfl rfl (fun h => absurd rfl h) (fun _ => ?_)
        by_cases hnk : n + k < 0 ∧ q = 0
        · obtain ⟨rfl, rfl⟩ := u1 hnk
          repeat (first | refine run_S ?_ | refine w_box (fun _ => ?_) | refine w_al (fun _ => ?_))
          refine st_dec rfl (fun _ => ?_) (fun h => absurd (by decide) h)
          repeat (first | refine run_S ?_ | refine w_box (fun _ => ?_) | refine w_al (fun _ => ?_))
          refine sl_call rfl rfl rfl rfl rfl rfl (fun _ => qSign_ct (ha.up uc sb) (by omega)) ?_
          rintro v U' D hU ⟨rfl, rfl, rfl⟩
          repeat (first | refine run_S ?_ | refine w_box (fun _ => ?_) | refine w_al (fun _ => ?_))
          exact sk_ret [] sym rfl (.cons (.tmp rfl) .nil) uc sb (.inl rfl) (tup_dec (by rw [hnk.2]; rfl))
        obtain ⟨rfl, hu⟩ := u3 hnk (not_big_small hbl (by omega))
        repeat (first | refine run_S ?_ | refine w_box (fun _ => ?_) | refine w_al (fun _ => ?_))
        refine st_dec rfl (fun h => absurd rfl h) (fun _ => ?_)
        repeat (first | refine run_S ?_ | refine w_box (fun _ => ?_) | refine w_al (fun _ => ?_))
        refine st_draw [0, 1, 3, 2, 4, 5] sym (by kernel_rfl) ?_
        repeat (first | refine run_S ?_ | refine w_box (fun _ => ?_) | refine w_al (fun _ => ?_))
        refine sl_call rfl rfl rfl rfl rfl rfl (fun _ => (qMul_ct (hx.rep.up uc sb) (hx.le (hw n (by omega) (by omega)) (by omega)) (hz.rep.up uc sb) (hz.le (hw k (by omega) (by omega)) (by omega))).settle) ?_
        rintro v Uh12 D hU ⟨rfl, _, _, ⟨xh12, rfl, h12, -⟩, -, -, hs⟩
        replace h12 := h12.sett hs
        clear hs
        repeat (first | refine run_S ?_ | refine w_box (fun _ => ?_) | refine w_al (fun _ => ?_))
        rw [zpow_add' hok hk] at h12
        refine sl_call rfl rfl rfl rfl rfl rfl (fun _ => rqSameT_ct (h12.up uc sb) (hu.up uc sb)) ?_
        rintro v U' D hU ⟨rfl, rfl, rfl⟩
        repeat (first | refine run_S ?_ | refine w_box (fun _ => ?_) | refine w_al (fun _ => ?_))
        exact sk_ret [] sym rfl (.cons (.tmp rfl) .nil) uc sb (.inl rfl) rfl
  · repeat (first | refine run_S ?_ | refine w_box (fun _ => ?_) | refine w_al (fun _ => ?_))
    exact sk_ret [] sym rfl (.cons (.tmp rfl) .nil) uc sb (.inl rfl) rfl

end Go.Proofs.Ytcndgdjelopmaaa
