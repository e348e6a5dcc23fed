/- Walks of the reference of layer 13: the Chinese remainders. -/
import Derived.Test.YtpigpikhjlmdoaaB168
import Derived.Test.YtpigpikhjlmdoaaB169
namespace Go.Proofs.Ytpigpikhjlmdoaa
open Go.Hp Go.Fq
variable {G : World} {U U' : UH} {M : MH}

theorem z13Chinese_ct {vr vm : Value} {nr nm : Nat} {r m : Nat → Int} (hr : Ls (Xw 4) 2 nr U [] vr r) (hm : Ls (Xw 2) 2 nm U [] vm m) (h1 : nr ≤ 10) (h2 : nm ≤ 10) :
    Ct Try.prog 13 [vr, vm] G U M fun v U' D => ∃ (x y : IV) (X K e : Int), v = .tuple #[x.v, y.v, .int .i64 e] ∧ D = [] ∧ x.nrm U' [] X ∧ y.nrm U' [] K ∧ (nr ≠ nm → e = 4 ∧ X = 0 ∧ K = 0) ∧ (nr = nm → Out r m nr X K e) := by
  obtain ⟨qr, cr, vsr, rfl, hcr, rr, er⟩ := hr
  obtain ⟨qm, cm, vsm, rfl, hcm, rm, em⟩ := hm
  refine ct_of_st Try.func13 rfl rfl rfl rfl ?_
  repeat (first | refine run_S ?_ | refine w_box (fun _ => ?_) | refine w_al (fun _ => ?_))
  rename_i b4 b5
  refine st_ne rfl (fun h => ?_) (fun h => ?_)
  · repeat (first | refine run_S ?_ | refine w_box (fun _ => ?_) | refine w_al (fun _ => ?_))
    exact sk_ret [] sym rfl (.cons (.cell 1 rfl rfl rfl) (.cons (.cell 0 rfl rfl rfl) (.cons (.tmp rfl) .nil))) uc sb (.inl rfl) ⟨zeroIV, zeroIV, 0, 0, 4, rfl, rfl, zeroIV_nrm, zeroIV_nrm, fun _ => ⟨rfl, rfl, rfl⟩, fun h => absurd h (by omega)⟩
  obtain rfl : nr = nm := by omega
  repeat (first | refine run_S ?_ | refine w_box (fun _ => ?_) | refine w_al (fun _ => ?_))
  refine sl_call rfl rfl rfl rfl rfl rfl (fun _ => (rOf_ct (z := 0) (by decide) (by decide)).settle) ?_
  rintro v Uh3 D hU ⟨rfl, _, _, ⟨xh3, rfl, h3, -⟩, -, -, hs⟩
  replace h3 := h3.sett hs
  clear hs
  repeat (first | refine run_S ?_ | refine w_box (fun _ => ?_) | refine w_al (fun _ => ?_))
  refine sl_call rfl rfl rfl rfl rfl rfl (fun _ => (rOf_ct (z := 1) (by decide) (by decide)).settle) ?_
  rintro v Uh4 D hU ⟨rfl, _, _, ⟨xh4, rfl, h4, -⟩, -, -, hs⟩
  replace h4 := h4.sett hs
  clear hs
  repeat (first | refine run_S ?_ | refine w_box (fun _ => ?_) | refine w_al (fun _ => ?_))
  rename_i b7 b8
  have s1 : Sz (1 : Int) 1 := by unfold Sz; decide
  try refine run_s ?_
  try refine st_anti (M' := (b8, .var xh4.v, 24) :: (b7, .var xh3.v, 24) :: (b5, .var zeroIV.v, 24) :: (b4, .var zeroIV.v, 24) :: M) (ULe.refl _) sbk ?_
  refine st_loop (fun z E U' M' => ∃ (i : Nat) (xx xk : IV) (X K : Int), i ≤ nr ∧ xx.nrm U' [] X ∧ xk.nrm U' [] K ∧ Ch r m i X K ∧ E = [(9, .int .i64 (i : Int)), (8, .pointer (some ⟨b8, 0, none⟩)), (7, .pointer (some ⟨b7, 0, none⟩)), (5, .pointer (some ⟨b5, 0, none⟩)), (4, .pointer (some ⟨b4, 0, none⟩)), (0, .slice qr nr cr), (1, .slice qm nr cm), (6, .int .i64 0)] ∧ ULe Uh4 U' ∧ M' = (b8, .var xk.v, 24) :: (b7, .var xx.v, 24) :: (b5, .var zeroIV.v, 24) :: (b4, .var zeroIV.v, 24) :: M ∧ z = nr - i) (n0 := nr - 0) (E0 := [(9, .int .i64 ((0 : Nat) : Int)), (8, .pointer (some ⟨b8, 0, none⟩)), (7, .pointer (some ⟨b7, 0, none⟩)), (5, .pointer (some ⟨b5, 0, none⟩)), (4, .pointer (some ⟨b4, 0, none⟩)), (0, .slice qr nr cr), (1, .slice qm nr cm), (6, .int .i64 0)]) ⟨rfl, rfl, rfl, rfl, rfl, rfl, rfl, rfl, trivial⟩ ⟨0, xh3, xh4, 0, 1, by omega, h3.up uc (List.Sublist.refl _), h4.up uc (List.Sublist.refl _), Ch.zero, rfl, uc, rfl, rfl⟩ ?_
  clear h3 h4
  rintro z E U1 M' ⟨i, xx, xk, X, K, hi, hX, hK, hC, rfl, hU1, rfl, rfl⟩
  try refine run_s ?_
  refine st_dec rfl (fun h => ?_) (fun h => ?_)
  · have hin : i < nr := by omega
    obtain ⟨v1, hv1⟩ := rr.at hin
    obtain ⟨v2, hv2⟩ := rm.at hin
    obtain ⟨y1, rfl, hy1, hn1⟩ := er _ _ hv1
    obtain ⟨y2, rfl, hy2, hn2⟩ := em _ _ hv2
    have hp1 := (rr.get _ _ hv1).1
    have hp2 := (rm.get _ _ hv2).1
    repeat (first | refine run_S ?_ | refine w_box (fun _ => ?_) | refine w_al (fun _ => ?_))
    refine w_addr (j := i) hin hp2 ?_
    refine sl_y (yl_loadRs sym rfl rfl rfl rfl rfl (rm.ls uc) hv2) rfl rfl rfl rfl ?_
    repeat (first | refine run_S ?_ | refine w_box (fun _ => ?_) | refine w_al (fun _ => ?_))
    refine sl_call rfl rfl rfl rfl rfl rfl (fun _ => rSign_ct (hy2.up uc sb) (by omega)) ?_
    rintro v U' D hU ⟨rfl, rfl, rfl⟩
    repeat (first | refine run_S ?_ | refine w_box (fun _ => ?_) | refine w_al (fun _ => ?_))
    refine st_dec rfl (fun h5 => ?_) (fun h5 => ?_)
    · have hm0 : m i < 1 := by
        rcases Int.lt_or_le (m i) 1 with h6 | h6
        · exact h6
        · have := Int.sign_eq_one_of_pos (show 0 < m i by omega); omega
      repeat (first | refine run_S ?_ | refine w_box (fun _ => ?_) | refine w_al (fun _ => ?_))
      exact sk_ret [] sym rfl (.cons (.cell 3 rfl rfl rfl) (.cons (.cell 2 rfl rfl rfl) (.cons (.tmp rfl) .nil))) uc sb (.inl rfl) ⟨zeroIV, zeroIV, 0, 0, 2, rfl, rfl, zeroIV_nrm, zeroIV_nrm, fun h => absurd rfl h, fun _ => .range hin hC hm0⟩
    have hm1 : 1 ≤ m i := by
      rcases Int.lt_or_le (m i) 1 with h6 | h6
      · exact absurd (by rcases Int.lt_or_le (m i) 0 with h7 | h7
                         · rw [Int.sign_eq_neg_one_of_neg h7]; decide
                         · rw [show m i = 0 by omega]; decide) h5
      · exact h6
    have hmz : ∀ j, j < i → Sz (m j) 2 := fun j hj => by
      obtain ⟨w, hw⟩ := rm.at (show j < nr by omega)
      obtain ⟨y, -, hy, hn⟩ := em _ _ hw
      exact hy.sz hn
    obtain ⟨sK, sX⟩ := ch_sz hC hmz
    replace sK : Sz K 21 := sK.mono (by omega)
    replace sX : Sz X 21 := sX.mono (by omega)
    repeat (first | refine run_S ?_ | refine w_box (fun _ => ?_) | refine w_al (fun _ => ?_))
    refine st_drawM [10, 11] [0, 1, 2, 3, 4, 5, 6, 7, 8, 9, 10, 11] sym (by kernel_rfl) ?_
    repeat (first | refine run_S ?_ | refine w_box (fun _ => ?_) | refine w_al (fun _ => ?_))
    refine w_addr (j := i) hin hp2 ?_
    refine sl_y (yl_loadRs sym rfl rfl rfl rfl rfl (rm.ls uc) hv2) rfl rfl rfl rfl ?_
    refine sl_call rfl rfl rfl rfl rfl rfl (fun _ => z13inverse_ct (hK.rep.up uc (List.Sublist.refl _)) (hK.le sK (by omega)) (hy2.up uc (List.Sublist.refl _)) (by omega) hm1) ?_
    rintro v6 U6 D6 hU6 ⟨xo, ok, u, rfl, rfl, ho, o0, o1, hok, hno⟩
    try rw [List.nil_append]
    repeat (first | refine run_S ?_ | refine w_box (fun _ => ?_) | refine w_al (fun _ => ?_))
    rename_i b10
    cases ok
    · have hg := hno rfl
      have hne : m i ≠ 1 := fun e => hg (by rw [e, Int.gcd_one])
      repeat (first | refine run_S ?_ | refine w_box (fun _ => ?_) | refine w_al (fun _ => ?_))
      refine w_addr (j := i) hin hp2 ?_
      refine sl_y (yl_loadRs sym rfl rfl rfl rfl rfl (rm.ls uc) hv2) rfl rfl rfl rfl ?_
      repeat (first | refine run_S ?_ | refine w_box (fun _ => ?_) | refine w_al (fun _ => ?_))
      refine sl_call rfl rfl rfl rfl rfl rfl (fun _ => (Norm_ct (hy2.up uc sb) (by omega)).settle) ?_
      rintro v Uh7 D hU ⟨rfl, _, _, ⟨xh7, rfl, h7, -⟩, -, -, hs⟩
      replace h7 := h7.sett hs
      clear hs
      repeat (first | refine run_S ?_ | refine w_box (fun _ => ?_) | refine w_al (fun _ => ?_))
      refine sl_call rfl rfl rfl rfl rfl rfl (fun _ => (rOf_ct (z := 1) (by decide) (by decide)).settle) ?_
      rintro v Uh8 D hU ⟨rfl, _, _, ⟨xh8, rfl, h8, -⟩, -, -, hs⟩
      replace h8 := h8.sett hs
      clear hs
      repeat (first | refine run_S ?_ | refine w_box (fun _ => ?_) | refine w_al (fun _ => ?_))
      refine sl_call rfl rfl rfl rfl rfl rfl (fun _ => rSame_cz (h7.up uc sb) (h8.up uc sb)) ?_
      rintro v U' D hU ⟨rfl, rfl, rfl⟩
      repeat (first | refine run_S ?_ | refine w_box (fun _ => ?_) | refine w_al (fun _ => ?_))
      rw [decide_eq_false hne]
      repeat (first | refine run_S ?_ | refine w_box (fun _ => ?_) | refine w_al (fun _ => ?_))
      exact sk_ret [] sym rfl (.cons (.cell 4 rfl rfl rfl) (.cons (.cell 3 rfl rfl rfl) (.cons (.tmp rfl) .nil))) uc sb (.inl rfl) ⟨zeroIV, zeroIV, 0, 0, 9, rfl, rfl, zeroIV_nrm, zeroIV_nrm, fun h => absurd rfl h, fun _ => .coprime hin hC hm1 hg⟩
    obtain ⟨hg, hu⟩ := hok rfl
    have su : Sz u 2 := sz_le (hy2.sz hn2) (by omega)
    have sr : Sz (r i) 21 := (hy1.sz hn1).mono (by omega)
    have st : Sz (((r i - X) * u) % m i) 2 := Sz.mod (hy2.sz hn2) (by omega) _
    repeat (first | refine run_S ?_ | refine w_box (fun _ => ?_) | refine w_al (fun _ => ?_))
    refine st_drawM [18, 19] [0, 1, 2, 3, 4, 6, 8, 9, 10, 11, 5, 7, 12, 13, 14, 15, 16, 17, 18, 19] sym (by kernel_rfl) ?_
    repeat (first | refine run_S ?_ | refine w_box (fun _ => ?_) | refine w_al (fun _ => ?_))
    refine w_addr (j := i) hin hp1 ?_
    refine sl_y (yl_loadRs sym rfl rfl rfl rfl rfl (rr.ls uc) hv1) rfl rfl rfl rfl ?_
    repeat (first | refine run_S ?_ | refine w_box (fun _ => ?_) | refine w_al (fun _ => ?_))
    refine w_addr (j := i) hin hp2 ?_
    refine sl_y (yl_loadRs sym rfl rfl rfl rfl rfl (rm.ls uc) hv2) rfl rfl rfl rfl ?_
    repeat (first | refine run_S ?_ | refine w_box (fun _ => ?_) | refine w_al (fun _ => ?_))
    refine sl_call rfl rfl rfl rfl rfl rfl (fun _ => (rSub_ct (hy1.up uc sb) (by omega) (hX.rep.up uc sb) (hX.le (sX) (by omega))).settle) ?_
    rintro v Uh7 D hU ⟨rfl, _, _, ⟨xh7, rfl, h7, -⟩, -, -, hs⟩
    replace h7 := h7.sett hs
    clear hs
    repeat (first | refine run_S ?_ | refine w_box (fun _ => ?_) | refine w_al (fun _ => ?_))
    refine sl_call rfl rfl rfl rfl rfl rfl (fun _ => (rMul_ct (h7.rep.up uc sb) (h7.le ((sr.sub sX)) (by omega)) (ho.rep.up uc sb) (ho.le (su) (by omega))).settle) ?_
    rintro v Uh8 D hU ⟨rfl, _, _, ⟨xh8, rfl, h8, -⟩, -, -, hs⟩
    replace h8 := h8.sett hs
    clear hs
    repeat (first | refine run_S ?_ | refine w_box (fun _ => ?_) | refine w_al (fun _ => ?_))
    refine sl_call rfl rfl rfl rfl rfl rfl (fun _ => rEuclid_st (h8.rep.up uc sb) (h8.le ((sr.sub sX).mul su) (by omega)) (hy2.up uc sb) (by omega) (by omega)) ?_
    rintro v12 U12 D12 hU12 ⟨xq, xt, rfl, -, ht, rfl⟩
    try rw [List.nil_append]
    repeat (first | refine run_S ?_ | refine w_box (fun _ => ?_) | refine w_al (fun _ => ?_))
    rename_i b12 b13
    refine st_drawM [4, 5] [0, 1, 2, 3, 4, 5] sym (by kernel_rfl) ?_
    repeat (first | refine run_S ?_ | refine w_box (fun _ => ?_) | refine w_al (fun _ => ?_))
    refine sl_call rfl rfl rfl rfl rfl rfl (fun _ => (rMul_ct (hK.rep.up uc sb) (hK.le (sK) (by omega)) (ht.rep.up uc sb) (ht.le (st) (by omega))).settle) ?_
    rintro v Uh9 D hU ⟨rfl, _, _, ⟨xh9, rfl, h9, -⟩, -, -, hs⟩
    replace h9 := h9.sett hs
    clear hs
    repeat (first | refine run_S ?_ | refine w_box (fun _ => ?_) | refine w_al (fun _ => ?_))
    refine sl_call rfl rfl rfl rfl rfl rfl (fun _ => (rAdd_ct (hX.rep.up uc sb) (hX.le (sX) (by omega)) (h9.rep.up uc sb) (h9.le ((sK.mul st)) (by omega))).settle) ?_
    rintro v Uh10 D hU ⟨rfl, _, _, ⟨xh10, rfl, h10, -⟩, -, -, hs⟩
    replace h10 := h10.sett hs
    clear hs
    repeat (first | refine run_S ?_ | refine w_box (fun _ => ?_) | refine w_al (fun _ => ?_))
    refine st_drawM [5, 6] [0, 1, 2, 3, 4, 5, 6] sym (by kernel_rfl) ?_
    repeat (first | refine run_S ?_ | refine w_box (fun _ => ?_) | refine w_al (fun _ => ?_))
    refine w_addr (j := i) hin hp2 ?_
    refine sl_y (yl_loadRs sym rfl rfl rfl rfl rfl (rm.ls uc) hv2) rfl rfl rfl rfl ?_
    repeat (first | refine run_S ?_ | refine w_box (fun _ => ?_) | refine w_al (fun _ => ?_))
    refine sl_call rfl rfl rfl rfl rfl rfl (fun _ => (rMul_ct (hK.rep.up uc sb) (hK.le (sK) (by omega)) (hy2.up uc sb) (by omega)).settle) ?_
    rintro v Uh11 D hU ⟨rfl, _, _, ⟨xh11, rfl, h11, -⟩, -, -, hs⟩
    replace h11 := h11.sett hs
    clear hs
    repeat (first | refine run_S ?_ | refine w_box (fun _ => ?_) | refine w_al (fun _ => ?_))
    refine sk_anti (M' := (b8, .var xh11.v, 24) :: (b7, .var xh10.v, 24) :: (b5, .var zeroIV.v, 24) :: (b4, .var zeroIV.v, 24) :: M) (ULe.refl _) sbk ?_
    exact sk_again (E' := [(9, .int .i64 ((i : Int) + 1)), (8, .pointer (some ⟨b8, 0, none⟩)), (7, .pointer (some ⟨b7, 0, none⟩)), (5, .pointer (some ⟨b5, 0, none⟩)), (4, .pointer (some ⟨b4, 0, none⟩)), (0, .slice qr nr cr), (1, .slice qm nr cm), (6, .int .i64 0)]) (m := nr - (i + 1)) ⟨rfl, rfl, rfl, rfl, rfl, rfl, rfl, rfl, trivial⟩ (by omega) ⟨i + 1, xh10, xh11, X + K * (((r i - X) * u) % m i), K * m i, by omega, h10.up uc (List.Sublist.refl _), h11.up uc (List.Sublist.refl _), Ch.succ hC hm1 hg hu, rfl, uc, rfl, rfl⟩
  · obtain rfl : i = nr := by omega
    repeat (first | refine run_S ?_ | refine w_box (fun _ => ?_) | refine w_al (fun _ => ?_))
    refine st_draw2 1 2 [0, 1, 2, 3, 4] [0, 2, 1, 3, 4] sym (by kernel_rfl) (by kernel_rfl) (by kernel_rfl) ?_ ?_
    all_goals
      repeat (first | refine run_S ?_ | refine w_box (fun _ => ?_) | refine w_al (fun _ => ?_))
      exact sk_ret [] sym rfl (.cons (.cell 3 rfl rfl rfl) (.cons (.cell 2 rfl rfl rfl) (.cons (.tmp rfl) .nil))) uc sb (.inl rfl) ⟨xx, xk, X, K, 0, rfl, rfl, hX.up uc (List.Sublist.refl _), hK.up uc (List.Sublist.refl _), fun h => absurd rfl h, fun _ => .ok hC⟩
end Go.Proofs.Ytpigpikhjlmdoaa
