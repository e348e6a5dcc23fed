/- The law of layer 13 on the Chinese remainders. -/
import Derived.Test.YtpigpikhjlmdoaaB165
import Derived.Test.YtpigpikhjlmdoaaB170
import Derived.Test.YtpigpikhjlmdoaaRf
namespace Go.Proofs.Ytpigpikhjlmdoaa
open Go.Hp Go.Fq
variable {G : World} {U U' : UH} {M : MH}

theorem _root_.Go.Fq.Out.ch {r m : Nat → Int} {n : Nat} {X K e : Int} (h : Out r m n X K e) (he : e = 0) : Ch r m n X K := by
  cases h with
  | ok h => exact h
  | range => exact absurd he (by decide)
  | coprime => exact absurd he (by decide)
set_option maxRecDepth 100000 in
theorem ModmatrixChinese_ct {vr vm : Value} {nr nm : Nat} {r m : Nat → Int} (hr : Ls Xz 2 nr U [] vr r) (wr : nr ≤ 9223372036854775807) (hm : Ls Xz 2 nm U [] vm m) (wm : nm ≤ 9223372036854775807) :
    Ct Try.prog 4 [vr, vm] G U M fun v _ _ => v = .bool true := by
  obtain ⟨qr, cr, vsr, rfl, hcr, rr, er⟩ := hr
  obtain ⟨qm, cm, vsm, rfl, hcm, rm, em⟩ := hm
  refine ct_of_st Try.func4 rfl rfl rfl rfl ?_
  repeat (first | refine run_S ?_ | refine w_box (fun _ => ?_) | refine w_al (fun _ => ?_))
  refine sl_call rfl rfl rfl rfl rfl rfl (fun _ => awake13_ct) ?_
  rintro v1 U1 D1 hU1 ⟨rfl, -, rfl⟩
  rw [List.nil_append]
  repeat (first | refine run_S ?_ | refine w_box (fun _ => ?_) | refine w_al (fun _ => ?_))
  refine sl_gdec rfl rfl (fun h => ?_) (fun h => ?_)
  · repeat (first | refine run_S ?_ | refine w_box (fun _ => ?_) | refine w_al (fun _ => ?_))
    exact sk_ret [] sym rfl (.cons (.tmp rfl) .nil) uc sb (.inl rfl) rfl
  repeat (first | refine run_S ?_ | refine w_box (fun _ => ?_) | refine w_al (fun _ => ?_))
  refine st_dec rfl (fun h2 => ?_) (fun h2 => ?_)
  · repeat (first | refine run_S ?_ | refine w_box (fun _ => ?_) | refine w_al (fun _ => ?_))
    exact sk_ret [] sym rfl (.cons (.tmp rfl) .nil) uc sb (.inl rfl) rfl
  try refine run_s ?_
  try refine st_anti (M' := M) (ULe.refl _) sbk ?_
  refine st_loop (fun z E U' M' => ∃ (i : Nat), i ≤ nr ∧ (∀ j x, j < i → vsr[j]? = some x → Xw 4 U' x (r j)) ∧ E = [(5, .int .i64 (i : Int)), (0, .slice qr nr cr), (1, .slice qm nm cm)] ∧ ULe U U' ∧ M' = M ∧ z = nr - i) (n0 := nr - 0) (E0 := [(5, .int .i64 ((0 : Nat) : Int)), (0, .slice qr nr cr), (1, .slice qm nm cm)]) ⟨rfl, rfl, rfl, trivial⟩ ⟨0, by omega, (fun j x h => absurd h (Nat.not_lt_zero j)), rfl, uc, rfl, rfl⟩ ?_
  rintro z E U2 M' ⟨i, hii, hxi, rfl, hU2, rfl, rfl⟩
  try refine run_s ?_
  refine st_dec rfl (fun hi => ?_) (fun hi => ?_)
  · have hin : i < nr := by omega
    obtain ⟨v1, hv1⟩ := rr.at hin
    obtain ⟨y1, rfl, hy1⟩ := er _ _ hv1
    have hp1 := (rr.get _ _ hv1).1
    repeat (first | refine run_S ?_ | refine w_box (fun _ => ?_) | refine w_al (fun _ => ?_))
    refine w_addr (j := i) hin hp1 ?_
    repeat (first | refine run_S ?_ | refine w_box (fun _ => ?_) | refine w_al (fun _ => ?_))
    refine sl_y (yl_loadRc (j := 1) (u := .slice y1.p y1.n y1.c) sym rfl rfl (by rw [elt_add]) rfl rfl (rr.ls uc) hv1 rfl) rfl rfl rfl rfl ?_
    repeat (first | refine run_S ?_ | refine w_box (fun _ => ?_) | refine w_al (fun _ => ?_))
    refine st_dec rfl (fun h4 => ?_) (fun h4 => ?_)
    · repeat (first | refine run_S ?_ | refine w_box (fun _ => ?_) | refine w_al (fun _ => ?_))
      exact sk_ret [] sym rfl (.cons (.tmp rfl) .nil) uc sb (.inl rfl) rfl
    repeat (first | refine run_S ?_ | refine w_box (fun _ => ?_) | refine w_al (fun _ => ?_))
    exact sk_again (E' := [(5, .int .i64 ((i : Int) + 1)), (0, .slice qr nr cr), (1, .slice qm nm cm)]) (m := nr - (i + 1)) ⟨rfl, rfl, rfl, trivial⟩ (by omega) ⟨i + 1, by omega, (fun j x hj hx => by
      rcases Nat.lt_or_eq_of_le (Nat.le_of_lt_succ hj) with h5 | h5
      · exact kept_xw _ _ _ _ uc (hxi j x h5 hx)
      · subst h5
        rw [hv1] at hx
        cases hx
        exact ⟨y1, rfl, hy1.up uc (List.Sublist.refl _), by omega⟩), rfl, uc, rfl, rfl⟩
  have er' : ∀ j x, vsr[j]? = some x → Xw 4 U2 x (r j) := fun j x hx => hxi j x (by have := rr.lt hx; omega) hx
  clear hxi
  generalize M' = Mc
  try refine run_s ?_
  try refine st_anti (M' := Mc) (ULe.refl _) sbk ?_
  refine st_loop (fun z E U' M' => ∃ (k : Nat), k ≤ nm ∧ (∀ j x, j < k → vsm[j]? = some x → Xw 2 U' x (m j)) ∧ E = [(6, .int .i64 (k : Int)), (0, .slice qr nr cr), (1, .slice qm nm cm)] ∧ ULe U2 U' ∧ M' = Mc ∧ z = nm - k) (n0 := nm - 0) (E0 := [(6, .int .i64 ((0 : Nat) : Int)), (0, .slice qr nr cr), (1, .slice qm nm cm)]) ⟨rfl, rfl, rfl, trivial⟩ ⟨0, by omega, (fun j x h => absurd h (Nat.not_lt_zero j)), rfl, uc, rfl, rfl⟩ ?_
  rintro z E U3 M' ⟨k, hik, hxk, rfl, hU3, rfl, rfl⟩
  try refine run_s ?_
  refine st_dec rfl (fun hk => ?_) (fun hk => ?_)
  · have hin : k < nm := by omega
    obtain ⟨v1, hv1⟩ := rm.at hin
    obtain ⟨y1, rfl, hy1⟩ := em _ _ hv1
    have hp1 := (rm.get _ _ hv1).1
    repeat (first | refine run_S ?_ | refine w_box (fun _ => ?_) | refine w_al (fun _ => ?_))
    refine w_addr (j := k) hin hp1 ?_
    repeat (first | refine run_S ?_ | refine w_box (fun _ => ?_) | refine w_al (fun _ => ?_))
    refine sl_y (yl_loadRc (j := 1) (u := .slice y1.p y1.n y1.c) sym rfl rfl (by rw [elt_add]) rfl rfl (rm.ls uc) hv1 rfl) rfl rfl rfl rfl ?_
    repeat (first | refine run_S ?_ | refine w_box (fun _ => ?_) | refine w_al (fun _ => ?_))
    refine st_dec rfl (fun h4 => ?_) (fun h4 => ?_)
    · repeat (first | refine run_S ?_ | refine w_box (fun _ => ?_) | refine w_al (fun _ => ?_))
      exact sk_ret [] sym rfl (.cons (.tmp rfl) .nil) uc sb (.inl rfl) rfl
    repeat (first | refine run_S ?_ | refine w_box (fun _ => ?_) | refine w_al (fun _ => ?_))
    exact sk_again (E' := [(6, .int .i64 ((k : Int) + 1)), (0, .slice qr nr cr), (1, .slice qm nm cm)]) (m := nm - (k + 1)) ⟨rfl, rfl, rfl, trivial⟩ (by omega) ⟨k + 1, by omega, (fun j x hj hx => by
      rcases Nat.lt_or_eq_of_le (Nat.le_of_lt_succ hj) with h5 | h5
      · exact kept_xw _ _ _ _ uc (hxk j x h5 hx)
      · subst h5
        rw [hv1] at hx
        cases hx
        exact ⟨y1, rfl, hy1.up uc (List.Sublist.refl _), by omega⟩), rfl, uc, rfl, rfl⟩
  have em' : ∀ j x, vsm[j]? = some x → Xw 2 U3 x (m j) := fun j x hx => hxk j x (by have := rm.lt hx; omega) hx
  clear hxk
  have nr10 : nr ≤ 10 := by omega
  have nm10 : nm ≤ 10 := by omega
  have lr : Ls (Xw 4) 2 nr U3 [] (.slice qr nr cr) r := ⟨qr, cr, vsr, rfl, hcr, rr.up uc (List.Sublist.refl _), fun j x hx => kept_xw _ _ _ _ uc (er' j x hx)⟩
  have lm : Ls (Xw 2) 2 nm U3 [] (.slice qm nm cm) m := ⟨qm, cm, vsm, rfl, hcm, rm.up uc (List.Sublist.refl _), em'⟩
  repeat (first | refine run_S ?_ | refine w_box (fun _ => ?_) | refine w_al (fun _ => ?_))
  refine sl_call rfl rfl rfl rfl rfl rfl (fun _ => fChinese_ct (lr.up kept_xw uc (List.nil_sublist _)) (lm.up kept_xw uc (List.nil_sublist _)) nr10 nm10 (by decide) (by decide)) ?_
  rintro v4 U4 D4 hU4 ⟨x1, k1, X, K, e, rfl, rfl, hX, hK, hne, heq⟩
  try rw [List.nil_append]
  repeat (first | refine run_S ?_ | refine w_box (fun _ => ?_) | refine w_al (fun _ => ?_))
  rename_i b7 b8
  repeat (first | refine run_S ?_ | refine w_box (fun _ => ?_) | refine w_al (fun _ => ?_))
  refine sl_call rfl rfl rfl rfl rfl rfl (fun _ => z13Chinese_ct (lr.up kept_xw uc (List.Sublist.refl _)) (lm.up kept_xw uc (List.Sublist.refl _)) nr10 nm10) ?_
  rintro v5 U5 D5 hU5 ⟨x2, k2, X2, K2, e2, rfl, rfl, hX2, hK2, hne2, heq2⟩
  try rw [List.nil_append]
  repeat (first | refine run_S ?_ | refine w_box (fun _ => ?_) | refine w_al (fun _ => ?_))
  rename_i b10 b11
  have same : X = X2 ∧ K = K2 ∧ e = e2 := by
    by_cases hn : nr = nm
    · exact (heq hn).uniq (heq2 hn)
    · obtain ⟨rfl, rfl, rfl⟩ := hne hn
      obtain ⟨rfl, rfl, rfl⟩ := hne2 hn
      exact ⟨rfl, rfl, rfl⟩
  obtain ⟨rfl, rfl, rfl⟩ := same
  have done : e = 0 → nr = nm ∧ Ch r m nr X K := fun he => by
    by_cases hn : nr = nm
    · exact ⟨hn, (heq hn).ch he⟩
    · have := (hne hn).1; omega
  have hmz : ∀ j, j < nr → nr = nm → Sz (m j) 2 := fun j hj hn => by
    obtain ⟨w, hw⟩ := rm.at (show j < nm by omega)
    obtain ⟨y, -, hy, hn⟩ := em' _ _ hw
    exact hy.sz hn
  repeat (first | refine run_S ?_ | refine w_box (fun _ => ?_) | refine w_al (fun _ => ?_))
  refine sl_gdec rfl rfl (fun h => absurd rfl h) (fun _ => ?_)
  repeat (first | refine run_S ?_ | refine w_box (fun _ => ?_) | refine w_al (fun _ => ?_))
  refine sl_call rfl rfl rfl rfl rfl rfl (fun _ => rSame_cz (hX.up uc sb) (hX2.up uc sb)) ?_
  rintro v U' D hU ⟨rfl, rfl, rfl⟩
  repeat (first | refine run_S ?_ | refine w_box (fun _ => ?_) | refine w_al (fun _ => ?_))
  rw [decide_eq_true rfl]
  repeat (first | refine run_S ?_ | refine w_box (fun _ => ?_) | refine w_al (fun _ => ?_))
  refine sl_call rfl rfl rfl rfl rfl rfl (fun _ => rSame_cz (hK.up uc sb) (hK2.up uc sb)) ?_
  rintro v U' D hU ⟨rfl, rfl, rfl⟩
  repeat (first | refine run_S ?_ | refine w_box (fun _ => ?_) | refine w_al (fun _ => ?_))
  rw [decide_eq_true rfl]
  repeat (first | refine run_S ?_ | refine w_box (fun _ => ?_) | refine w_al (fun _ => ?_))
  generalize M' = Mc
  try refine run_s ?_
  try refine st_anti (M' := (b11, .var k2.v, 24) :: (b10, .var x2.v, 24) :: (b8, .var k1.v, 24) :: (b7, .var x1.v, 24) :: Mc) (ULe.refl _) sbk ?_
  refine st_loop (fun z E U' M' => ∃ (q : Nat), q ≤ nr ∧ E = [(13, .int .i64 (q : Int)), (12, .int .i64 e), (11, .pointer (some ⟨b11, 0, none⟩)), (10, .pointer (some ⟨b10, 0, none⟩)), (9, .int .i64 e), (8, .pointer (some ⟨b8, 0, none⟩)), (7, .pointer (some ⟨b7, 0, none⟩)), (0, .slice qr nr cr), (1, .slice qm nm cm)] ∧ ULe U5 U' ∧ M' = (b11, .var k2.v, 24) :: (b10, .var x2.v, 24) :: (b8, .var k1.v, 24) :: (b7, .var x1.v, 24) :: Mc ∧ z = nr - q) (n0 := nr - 0) (E0 := [(13, .int .i64 ((0 : Nat) : Int)), (12, .int .i64 e), (11, .pointer (some ⟨b11, 0, none⟩)), (10, .pointer (some ⟨b10, 0, none⟩)), (9, .int .i64 e), (8, .pointer (some ⟨b8, 0, none⟩)), (7, .pointer (some ⟨b7, 0, none⟩)), (0, .slice qr nr cr), (1, .slice qm nm cm)]) ⟨rfl, rfl, rfl, rfl, rfl, rfl, rfl, rfl, rfl, trivial⟩ ⟨0, by omega, rfl, uc, rfl, rfl⟩ ?_
  rintro z E U6 M' ⟨q, hq, rfl, hU6, rfl, rfl⟩
  try refine run_s ?_
  refine sl_gdec rfl rfl (fun h5 => ?_) (fun h5 => ?_)
  · repeat (first | refine run_S ?_ | refine w_box (fun _ => ?_) | refine w_al (fun _ => ?_))
    refine st_dec rfl (fun h6 => ?_) (fun h6 => ?_)
    · have hqn : q < nr := by omega
      obtain ⟨hn, hC⟩ := done h6
      obtain ⟨f1, f2, f3, f4, f5⟩ := hC.fact
      obtain ⟨f6, f7⟩ := f5 q hqn
      obtain ⟨sK, sX⟩ := ch_sz hC (k := 2) (fun j hj => hmz j hj hn)
      replace sK : Sz K 21 := sK.mono (by omega)
      replace sX : Sz X 21 := sX.mono (by omega)
      obtain ⟨v1, hv1⟩ := rr.at hqn
      obtain ⟨v2, hv2⟩ := rm.at (show q < nm by omega)
      obtain ⟨y1, rfl, hy1, hn1⟩ := er' _ _ hv1
      obtain ⟨y2, rfl, hy2, hn2⟩ := em' _ _ hv2
      have hp1 := (rr.get _ _ hv1).1
      have hp2 := (rm.get _ _ hv2).1
      repeat (first | refine run_S ?_ | refine w_box (fun _ => ?_) | refine w_al (fun _ => ?_))
      refine st_drawM [11, 12] [0, 1, 2, 3, 4, 5, 6, 7, 8, 9, 10, 11, 12] sym (by kernel_rfl) ?_
      repeat (first | refine run_S ?_ | refine w_box (fun _ => ?_) | refine w_al (fun _ => ?_))
      refine w_addr (j := q) (show q < nm by omega) hp2 ?_
      refine sl_y (yl_loadRs sym rfl rfl rfl rfl rfl (rm.ls uc) hv2) rfl rfl rfl rfl ?_
      refine sl_call rfl rfl rfl rfl rfl rfl (fun _ => rEuclid_st (hX.rep.up uc sb) (hX.le sX (by omega)) (hy2.up uc sb) (by omega) (by omega)) ?_
      rintro v7 U7 D7 hU7 ⟨xq1, xr1, rfl, -, hA, rfl⟩
      try rw [List.nil_append]
      repeat (first | refine run_S ?_ | refine w_box (fun _ => ?_) | refine w_al (fun _ => ?_))
      refine st_drawM [14, 15] [0, 1, 2, 3, 4, 5, 6, 7, 8, 9, 10, 11, 12, 13, 14, 15] sym (by kernel_rfl) ?_
      repeat (first | refine run_S ?_ | refine w_box (fun _ => ?_) | refine w_al (fun _ => ?_))
      refine w_addr (j := q) hqn hp1 ?_
      refine sl_y (yl_loadRs sym rfl rfl rfl rfl rfl (rr.ls uc) hv1) rfl rfl rfl rfl ?_
      repeat (first | refine run_S ?_ | refine w_box (fun _ => ?_) | refine w_al (fun _ => ?_))
      refine w_addr (j := q) (show q < nm by omega) hp2 ?_
      refine sl_y (yl_loadRs sym rfl rfl rfl rfl rfl (rm.ls uc) hv2) rfl rfl rfl rfl ?_
      refine sl_call rfl rfl rfl rfl rfl rfl (fun _ => rEuclid_st (hy1.up uc sb) (by omega) (hy2.up uc sb) (by omega) (by omega)) ?_
      rintro v8 U8 D8 hU8 ⟨xq2, xr2, rfl, -, hB, rfl⟩
      try rw [List.nil_append]
      repeat (first | refine run_S ?_ | refine w_box (fun _ => ?_) | refine w_al (fun _ => ?_))
      have hAB : X % m q = r q % m q := Int.emod_eq_emod_iff_emod_sub_eq_zero.2 (Int.emod_eq_zero_of_dvd f7)
      refine sl_call rfl rfl rfl rfl rfl rfl (fun _ => rSame_cz (hA.up uc sb) (hB.up uc sb)) ?_
      rintro v U' D hU ⟨rfl, rfl, rfl⟩
      repeat (first | refine run_S ?_ | refine w_box (fun _ => ?_) | refine w_al (fun _ => ?_))
      rw [decide_eq_true hAB]
      repeat (first | refine run_S ?_ | refine w_box (fun _ => ?_) | refine w_al (fun _ => ?_))
      refine sk_anti (M' := (b11, .var k2.v, 24) :: (b10, .var x2.v, 24) :: (b8, .var k1.v, 24) :: (b7, .var x1.v, 24) :: Mc) (ULe.refl _) sbk ?_
      exact sk_again (E' := [(13, .int .i64 ((q : Int) + 1)), (12, .int .i64 e), (11, .pointer (some ⟨b11, 0, none⟩)), (10, .pointer (some ⟨b10, 0, none⟩)), (9, .int .i64 e), (8, .pointer (some ⟨b8, 0, none⟩)), (7, .pointer (some ⟨b7, 0, none⟩)), (0, .slice qr nr cr), (1, .slice qm nm cm)]) (m := nr - (q + 1)) ⟨rfl, rfl, rfl, rfl, rfl, rfl, rfl, rfl, rfl, trivial⟩ (by omega) ⟨q + 1, by omega, rfl, uc, rfl, rfl⟩
    · repeat (first | refine run_S ?_ | refine w_box (fun _ => ?_) | refine w_al (fun _ => ?_))
      refine sl_gdec rfl rfl (fun h7 => ?_) (fun h7 => absurd (Decidable.of_not_not h7) h6)
      repeat (first | refine run_S ?_ | refine w_box (fun _ => ?_) | refine w_al (fun _ => ?_))
      exact sk_ret [] sym rfl (.cons (.tmp rfl) .nil) uc sb (.inl rfl) rfl
  · repeat (first | refine run_S ?_ | refine w_box (fun _ => ?_) | refine w_al (fun _ => ?_))
    refine sl_gdec rfl rfl (fun h7 => ?_) (fun h7 => ?_)
    · repeat (first | refine run_S ?_ | refine w_box (fun _ => ?_) | refine w_al (fun _ => ?_))
      exact sk_ret [] sym rfl (.cons (.tmp rfl) .nil) uc sb (.inl rfl) rfl
    · obtain ⟨hn, hC⟩ := done (Decidable.of_not_not h7)
      obtain ⟨f1, f2, f3, f4, f5⟩ := hC.fact
      obtain ⟨sK, sX⟩ := ch_sz hC (k := 2) (fun j hj => hmz j hj hn)
      replace sK : Sz K 21 := sK.mono (by omega)
      replace sX : Sz X 21 := sX.mono (by omega)
      repeat (first | refine run_S ?_ | refine w_box (fun _ => ?_) | refine w_al (fun _ => ?_))
      refine sl_call rfl rfl rfl rfl rfl rfl (fun _ => rSign_ct (hX.rep.up uc sb) (hX.le (sX) (by omega))) ?_
      rintro v U' D hU ⟨rfl, rfl, rfl⟩
      repeat (first | refine run_S ?_ | refine w_box (fun _ => ?_) | refine w_al (fun _ => ?_))
      refine sl_gdec rfl rfl (fun h8 => ?_) (fun h8 => ?_)
      · repeat (first | refine run_S ?_ | refine w_box (fun _ => ?_) | refine w_al (fun _ => ?_))
        refine sl_call rfl rfl rfl rfl rfl rfl (fun _ => rCmp_ct (hX.rep.up uc sb) (hX.le (sX) (by omega)) (hK.rep.up uc sb) (hK.le (sK) (by omega))) ?_
        rintro v U' D hU ⟨rfl, rfl, rfl⟩
        repeat (first | refine run_S ?_ | refine w_box (fun _ => ?_) | refine w_al (fun _ => ?_))
        refine sk_ret [] sym rfl (.cons (.tmp rfl) .nil) uc sb (.inl rfl) ?_
        have h9 : (X - K).sign < 0 := by rw [Int.sign_eq_neg_one_of_neg (by omega)]; decide
        exact congrArg Value.bool (dec_true h9)
      · refine absurd ?_ h8
        rcases Int.lt_or_eq_of_le f2 with h9 | h9
        · rw [Int.sign_eq_one_of_pos h9]; decide
        · rw [← h9]; decide
end Go.Proofs.Ytpigpikhjlmdoaa
