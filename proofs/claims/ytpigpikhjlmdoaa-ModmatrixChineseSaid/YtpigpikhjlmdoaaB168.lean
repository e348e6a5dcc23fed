/- Walks of modmatrix: the Chinese remainders. -/
import Derived.Test.YtpigpikhjlmdoaaB167
import Derived.Test.YtpigpikhjlmdoaaM4
import Derived.Test.YtpigpikhjlmdoaaCt
import Derived.Test.YtpigpikhjlmdoaaM19
namespace Go.Proofs.Ytpigpikhjlmdoaa
open Go.Hp Go.Fq
variable {G : World} {U U' : UH} {M : MH}

/-- An integer of any form, of at most s digits. -/
def Xw (s : Nat) (U : UH) (v : Value) (z : Int) : Prop := ∃ x : IV, v = x.v ∧ x.rep U [] z ∧ x.n ≤ s
theorem kept_xw {s : Nat} : Kept (Xw s) := fun _ _ _ _ hU ⟨x, h1, h2, h3⟩ => ⟨x, h1, h2.up hU (List.Sublist.refl _), h3⟩
theorem zeroIV_nrm : zeroIV.nrm U [] 0 := zeroIV0_own.at (List.nil_sublist _)

theorem fChinese_ct {vr vm : Value} {nr nm s t : Nat} {r m : Nat → Int} (hr : Ls (Xw s) 2 nr U M vr r) (hm : Ls (Xw t) 2 nm U M vm m) (h1 : nr ≤ 10) (h2 : nm ≤ 10) (hs : s ≤ 61) (ht : t ≤ 6) :
    Ct Try.prog 12 [vr, vm] G U M fun v U' D => ∃ (x y : IV) (X K e : Int), v = .tuple #[x.v, y.v, .int .i64 e] ∧ D = [] ∧ x.nrm U' [] X ∧ y.nrm U' [] K ∧ (nr ≠ nm → e = 4 ∧ X = 0 ∧ K = 0) ∧ (nr = nm → Out r m nr X K e) := by
  obtain ⟨qr, cr, vsr, rfl, hcr, rr, er⟩ := hr
  obtain ⟨qm, cm, vsm, rfl, hcm, rm, em⟩ := hm
  refine ct_of_st Try.func12 rfl rfl rfl rfl ?_
  repeat (first | refine run_S ?_ | refine w_box (fun _ => ?_) | refine w_al (fun _ => ?_))
  rename_i b4 b5
  refine st_ne rfl (fun h => ?_) (fun h => ?_)
  · repeat (first | refine run_S ?_ | refine w_box (fun _ => ?_) | refine w_al (fun _ => ?_))
    exact sk_ret [] sym rfl (.cons (.cell 1 rfl rfl rfl) (.cons (.cell 0 rfl rfl rfl) (.cons (.tmp rfl) .nil))) uc sb (.inl rfl) ⟨zeroIV, zeroIV, 0, 0, 4, rfl, rfl, zeroIV_nrm, zeroIV_nrm, fun _ => ⟨rfl, rfl, rfl⟩, fun h => absurd h (by omega)⟩
  obtain rfl : nr = nm := by omega
  repeat (first | refine run_S ?_ | refine w_box (fun _ => ?_) | refine w_al (fun _ => ?_))
  refine sl_call rfl rfl rfl rfl rfl rfl (fun _ => (Of_ct (z := 1) (by decide) (by decide)).settle) ?_
  rintro v Uh3 D hU ⟨rfl, _, _, ⟨xh3, rfl, h3, -⟩, -, -, hs⟩
  replace h3 := h3.sett hs
  clear hs
  repeat (first | refine run_S ?_ | refine w_box (fun _ => ?_) | refine w_al (fun _ => ?_))
  rename_i b7
  repeat (first | refine run_S ?_ | refine w_box (fun _ => ?_) | refine w_al (fun _ => ?_))
  refine sl_call rfl rfl rfl rfl rfl rfl (fun _ => (Of_ct (z := 1) (by decide) (by decide)).settle) ?_
  rintro v Uh4 D hU ⟨rfl, _, _, ⟨xh4, rfl, h4, -⟩, -, -, hs⟩
  replace h4 := h4.sett hs
  clear hs
  repeat (first | refine run_S ?_ | refine w_box (fun _ => ?_) | refine w_al (fun _ => ?_))
  have s1 : Sz (1 : Int) 1 := by unfold Sz; decide
  try refine st_anti (M' := (b7, .var xh3.v, 24) :: (b5, .var xh4.v, 24) :: (b4, .var zeroIV.v, 24) :: M) (ULe.refl _) sbk ?_
  refine st_loop (fun z E U' M' => ∃ (i : Nat) (xx xk : IV) (X K : Int), i ≤ nr ∧ xx.nrm U' [] X ∧ xk.nrm U' [] K ∧ Ch r m i X K ∧ E = [(19, .int .i64 (nr : Int)), (20, .int .i64 (i : Int)), (7, .pointer (some ⟨b7, 0, none⟩)), (5, .pointer (some ⟨b5, 0, none⟩)), (4, .pointer (some ⟨b4, 0, none⟩)), (0, .slice qr nr cr), (1, .slice qm nr cm), (6, .int .i64 0)] ∧ ULe Uh3 U' ∧ M' = (b7, .var xh3.v, 24) :: (b5, .var xk.v, 24) :: (b4, .var xx.v, 24) :: M ∧ z = nr - i) (n0 := nr - 0) (E0 := [(19, .int .i64 (nr : Int)), (20, .int .i64 ((0 : Nat) : Int)), (7, .pointer (some ⟨b7, 0, none⟩)), (5, .pointer (some ⟨b5, 0, none⟩)), (4, .pointer (some ⟨b4, 0, none⟩)), (0, .slice qr nr cr), (1, .slice qm nr cm), (6, .int .i64 0)]) ⟨rfl, rfl, rfl, rfl, rfl, rfl, rfl, rfl, trivial⟩ ⟨0, zeroIV, xh4, 0, 1, by omega, zeroIV_nrm, h4.up uc (List.Sublist.refl _), Ch.zero, rfl, uc, rfl, rfl⟩ ?_
  clear h4
  rintro z E U1 M' ⟨i, xx, xk, X, K, hi, hX, hK, hC, rfl, hU1, rfl, rfl⟩
  try refine run_s ?_
  refine st_dec rfl (fun h => ?_) (fun h => ?_)
  · have hin : i < nr := by omega
    obtain ⟨v1, hv1⟩ := rr.at hin
    obtain ⟨v2, hv2⟩ := rm.at hin
    obtain ⟨y1, rfl, hy1, hn1⟩ := er _ _ hv1
    obtain ⟨y2, rfl, hy2, hn2⟩ := em _ _ hv2
    have hp1 := (rr.get _ _ hv1).1
    have hp2 := (rm.get _ _ hv2).1
    repeat (first | refine run_S ?_ | refine w_box (fun _ => ?_) | refine w_al (fun _ => ?_))
    refine w_addr (j := i) hin hp2 ?_
    refine sl_y (yl_loadRs sym rfl rfl rfl rfl rfl (rm.up uc sb) hv2) rfl rfl rfl rfl ?_
    repeat (first | refine run_S ?_ | refine w_box (fun _ => ?_) | refine w_al (fun _ => ?_))
    refine sl_call rfl rfl rfl rfl rfl rfl (fun _ => Sign_ct (hy2.up uc sb) (by omega)) ?_
    rintro v U' D hU ⟨rfl, rfl, rfl⟩
    repeat (first | refine run_S ?_ | refine w_box (fun _ => ?_) | refine w_al (fun _ => ?_))
    refine st_dec rfl (fun h5 => ?_) (fun h5 => ?_)
    · have hm0 : m i < 1 := by
        rcases Int.lt_or_le (m i) 1 with h6 | h6
        · exact h6
        · have := Int.sign_eq_one_of_pos (show 0 < m i by omega); omega
      repeat (first | refine run_S ?_ | refine w_box (fun _ => ?_) | refine w_al (fun _ => ?_))
      exact sk_ret [] sym rfl (.cons (.cell 2 rfl rfl rfl) (.cons (.cell 1 rfl rfl rfl) (.cons (.tmp rfl) .nil))) uc sb (.inl rfl) ⟨zeroIV, zeroIV, 0, 0, 2, rfl, rfl, zeroIV_nrm, zeroIV_nrm, fun h => absurd rfl h, fun _ => .range hin hC hm0⟩
    have hm1 : 1 ≤ m i := by
      rcases Int.lt_or_le (m i) 1 with h6 | h6
      · exact absurd (by rcases Int.lt_or_le (m i) 0 with h7 | h7
                         · rw [Int.sign_eq_neg_one_of_neg h7]; decide
                         · rw [show m i = 0 by omega]; decide) h5
      · exact h6
    have hmz : ∀ j, j < i → Sz (m j) 6 := fun j hj => by
      obtain ⟨w, hw⟩ := rm.at (show j < nr by omega)
      obtain ⟨y, -, hy, hn⟩ := em _ _ hw
      exact hy.sz (by omega)
    obtain ⟨sK, sX⟩ := ch_sz hC hmz
    replace sK : Sz K 61 := sK.mono (by omega)
    replace sX : Sz X 61 := sX.mono (by omega)
    repeat (first | refine run_S ?_ | refine w_box (fun _ => ?_) | refine w_al (fun _ => ?_))
    refine st_draw [0, 1, 2, 3, 4, 6, 5, 7, 8] sym (by kernel_rfl) ?_
    repeat (first | refine run_S ?_ | refine w_box (fun _ => ?_) | refine w_al (fun _ => ?_))
    refine w_addr (j := i) hin hp2 ?_
    refine sl_y (yl_loadRs sym rfl rfl rfl rfl rfl (rm.up uc sb) hv2) rfl rfl rfl rfl ?_
    repeat (first | refine run_S ?_ | refine w_box (fun _ => ?_) | refine w_al (fun _ => ?_))
    refine sl_call rfl rfl rfl rfl rfl rfl (fun _ => (Gcd_ct (hK.rep.up uc sb) (hK.le (sK) (by omega)) (hy2.up uc sb) (by omega)).settle) ?_
    rintro v Uh6 D hU ⟨rfl, _, _, ⟨xh6, rfl, h6, -⟩, -, -, hs⟩
    replace h6 := h6.sett hs
    clear hs
    repeat (first | refine run_S ?_ | refine w_box (fun _ => ?_) | refine w_al (fun _ => ?_))
    have s6 := sK.gcd ((hy2.sz hn2).mono (show t ≤ 61 by omega))
    refine sl_call rfl rfl rfl rfl rfl rfl (fun _ => Cmp_ct (h6.rep.up uc sb) (h6.le (s6) (by omega)) (h3.rep.up uc sb) (h3.le (s1) (by omega))) ?_
    rintro v U' D hU ⟨rfl, rfl, rfl⟩
    repeat (first | refine run_S ?_ | refine w_box (fun _ => ?_) | refine w_al (fun _ => ?_))
    refine st_ne rfl (fun h7 => ?_) (fun h7 => ?_)
    · have hg : Int.gcd K (m i) ≠ 1 := fun e => h7 (by rw [e]; rfl)
      repeat (first | refine run_S ?_ | refine w_box (fun _ => ?_) | refine w_al (fun _ => ?_))
      exact sk_ret [] sym rfl (.cons (.cell 2 rfl rfl rfl) (.cons (.cell 1 rfl rfl rfl) (.cons (.tmp rfl) .nil))) uc sb (.inl rfl) ⟨zeroIV, zeroIV, 0, 0, 9, rfl, rfl, zeroIV_nrm, zeroIV_nrm, fun h => absurd rfl h, fun _ => .coprime hin hC hm1 hg⟩
    have hg : Int.gcd K (m i) = 1 := by
      have := Int.sign_eq_zero_iff_zero.1 h7
      omega
    repeat (first | refine run_S ?_ | refine w_box (fun _ => ?_) | refine w_al (fun _ => ?_))
    refine st_draw [0, 1, 2, 3, 4, 5, 6, 7, 8, 9, 10, 11] sym (by kernel_rfl) ?_
    repeat (first | refine run_S ?_ | refine w_box (fun _ => ?_) | refine w_al (fun _ => ?_))
    refine w_addr (j := i) hin hp1 ?_
    refine sl_y (yl_loadRs sym rfl rfl rfl rfl rfl (rr.up uc sb) hv1) rfl rfl rfl rfl ?_
    repeat (first | refine run_S ?_ | refine w_box (fun _ => ?_) | refine w_al (fun _ => ?_))
    refine w_addr (j := i) hin hp2 ?_
    refine sl_y (yl_loadRs sym rfl rfl rfl rfl rfl (rm.up uc sb) hv2) rfl rfl rfl rfl ?_
    refine sl_call rfl rfl rfl rfl rfl rfl (fun _ => combined_ct (k := 61) (by decide) (hX.rep.up uc (List.Sublist.refl _)) sX (hX.le sX (by omega)) (hK.rep.up uc (List.Sublist.refl _)) sK (hK.le sK (by omega)) (hy1.up uc (List.Sublist.refl _)) ((hy1.sz hn1).mono (by omega)) (by omega) (hy2.up uc (List.Sublist.refl _)) ((hy2.sz hn2).mono (by omega)) (by omega) hm1 hg) ?_
    rintro v8 U8 D8 hU8 ⟨xo, u, rfl, rfl, hu, h8⟩
    try rw [List.nil_append]
    repeat (first | refine run_S ?_ | refine w_box (fun _ => ?_) | refine w_al (fun _ => ?_))
    refine st_draw [0, 1, 2, 3, 4, 5, 6] sym (by kernel_rfl) ?_
    repeat (first | refine run_S ?_ | refine w_box (fun _ => ?_) | refine w_al (fun _ => ?_))
    refine w_addr (j := i) hin hp2 ?_
    refine sl_y (yl_loadRs sym rfl rfl rfl rfl rfl (rm.up uc sb) hv2) rfl rfl rfl rfl ?_
    repeat (first | refine run_S ?_ | refine w_box (fun _ => ?_) | refine w_al (fun _ => ?_))
    refine sl_call rfl rfl rfl rfl rfl rfl (fun _ => (Mul_ct (hK.rep.up uc sb) (hK.le (sK) (by omega)) (hy2.up uc sb) (by omega)).settle) ?_
    rintro v Uh9 D hU ⟨rfl, _, _, ⟨xh9, rfl, h9, -⟩, -, -, hs⟩
    replace h9 := h9.sett hs
    clear hs
    repeat (first | refine run_S ?_ | refine w_box (fun _ => ?_) | refine w_al (fun _ => ?_))
    exact sk_again (E' := [(19, .int .i64 (nr : Int)), (20, .int .i64 ((i : Int) + 1)), (7, .pointer (some ⟨b7, 0, none⟩)), (5, .pointer (some ⟨b5, 0, none⟩)), (4, .pointer (some ⟨b4, 0, none⟩)), (0, .slice qr nr cr), (1, .slice qm nr cm), (6, .int .i64 0)]) (m := nr - (i + 1)) ⟨rfl, rfl, rfl, rfl, rfl, rfl, rfl, rfl, trivial⟩ (by omega) ⟨i + 1, xo, xh9, X + K * (((r i - X) * u) % m i), K * m i, by omega, h8.up uc (List.Sublist.refl _), h9.up uc (List.Sublist.refl _), Ch.succ hC hm1 hg hu, rfl, uc, rfl, rfl⟩
  · obtain rfl : i = nr := by omega
    repeat (first | refine run_S ?_ | refine w_box (fun _ => ?_) | refine w_al (fun _ => ?_))
    refine st_draw2 1 2 [0, 1, 2, 3, 4] [0, 2, 1, 3, 4] sym (by kernel_rfl) (by kernel_rfl) (by kernel_rfl) ?_ ?_
    all_goals
      repeat (first | refine run_S ?_ | refine w_box (fun _ => ?_) | refine w_al (fun _ => ?_))
      exact sk_ret [] sym rfl (.cons (.cell 2 rfl rfl rfl) (.cons (.cell 1 rfl rfl rfl) (.cons (.tmp rfl) .nil))) uc sb (.inl rfl) ⟨xx, xk, X, K, 0, rfl, rfl, hX.up uc (List.Sublist.refl _), hK.up uc (List.Sublist.refl _), fun h => absurd rfl h, fun _ => .ok hC⟩
end Go.Proofs.Ytpigpikhjlmdoaa
