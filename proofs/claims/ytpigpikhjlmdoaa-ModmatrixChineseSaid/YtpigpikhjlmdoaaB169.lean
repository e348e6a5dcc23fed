/- Walks of the reference of layer 13: inverses modulo an integer. -/
import Derived.Test.YtpigpikhjlmdoaaB162
import Derived.Test.YtpigpikhjlmdoaaB167
import Derived.Test.YtpigpikhjlmdoaaM15
import Derived.Test.YtpigpikhjlmdoaaM5
import Derived.Test.YtpigpikhjlmdoaaCt
namespace Go.Proofs.Ytpigpikhjlmdoaa
open Go.Hp Go.Fq
variable {G : World} {U U' : UH} {M : MH}

theorem z13inverse_ct {x y : IV} {a m : Int} (hx : x.rep U [] a) (hn : x.n ≤ 900) (hy : y.rep U [] m) (hn' : y.n ≤ 900) (hm : 1 ≤ m) :
    Ct Try.prog 54 [x.v, y.v] G U M fun v U' D => ∃ (o : IV) (b : Bool) (u : Int), v = .tuple #[o.v, .bool b] ∧ D = [] ∧ o.nrm U' [] u ∧ 0 ≤ u ∧ u < m ∧ (b = true → Int.gcd a m = 1 ∧ m ∣ u * a - 1) ∧ (b = false → Int.gcd a m ≠ 1) := by
  have sa := hx.sz (Nat.le_refl _)
  have sm : Sz m 900 := hy.sz hn'
  refine ct_of_st Try.func54 rfl rfl rfl rfl ?_
  repeat (first | refine run_S ?_ | refine w_box (fun _ => ?_) | refine w_al (fun _ => ?_))
  rename_i b2 b3 b4
  refine sl_call rfl rfl rfl rfl rfl rfl (fun _ => rEuclid_st (hx.up uc sb) (by omega) (hy.up uc sb) (by omega) (by omega)) ?_
  rintro v1 U1 D1 hU1 ⟨xq1, xr1, rfl, -, h1, rfl⟩
  try rw [List.nil_append]
  repeat (first | refine run_S ?_ | refine w_box (fun _ => ?_) | refine w_al (fun _ => ?_))
  rename_i b6 b7
  repeat (first | refine run_S ?_ | refine w_box (fun _ => ?_) | refine w_al (fun _ => ?_))
  refine sl_call rfl rfl rfl rfl rfl rfl (fun _ => (Norm_ct (hy.up uc sb) (by omega)).settle) ?_
  rintro v Uh2 D hU ⟨rfl, _, _, ⟨xh2, rfl, h2, -⟩, -, -, hs⟩
  replace h2 := h2.sett hs
  clear hs
  repeat (first | refine run_S ?_ | refine w_box (fun _ => ?_) | refine w_al (fun _ => ?_))
  rename_i b8
  repeat (first | refine run_S ?_ | refine w_box (fun _ => ?_) | refine w_al (fun _ => ?_))
  refine sl_call rfl rfl rfl rfl rfl rfl (fun _ => (rOf_ct (z := 1) (by decide) (by decide)).settle) ?_
  rintro v Uh3 D hU ⟨rfl, _, _, ⟨xh3, rfl, h3, -⟩, -, -, hs⟩
  replace h3 := h3.sett hs
  clear hs
  repeat (first | refine run_S ?_ | refine w_box (fun _ => ?_) | refine w_al (fun _ => ?_))
  refine sl_call rfl rfl rfl rfl rfl rfl (fun _ => (rOf_ct (z := 0) (by decide) (by decide)).settle) ?_
  rintro v Uh4 D hU ⟨rfl, _, _, ⟨xh4, rfl, h4, -⟩, -, -, hs⟩
  replace h4 := h4.sett hs
  clear hs
  repeat (first | refine run_S ?_ | refine w_box (fun _ => ?_) | refine w_al (fun _ => ?_))
  rename_i b9 b10
  have ha0 := Int.emod_nonneg a (show m ≠ 0 by omega)
  have ha1 := Int.emod_lt_of_pos a (show 0 < m by omega)
  try refine st_anti (M' := (b10, .var xh4.v, 24) :: (b9, .var xh3.v, 24) :: (b8, .var xh2.v, 24) :: (b7, .var xr1.v, 24) :: (b6, .var xq1.v, 24) :: (b4, .var zeroIV.v, 24) :: (b3, .var y.v, 24) :: (b2, .var x.v, 24) :: M) (ULe.refl _) sbk ?_
  refine st_loop (fun z E U' M' => ∃ (xg xr xu xw : IV) (g r u w e : Int), xg.nrm U' [] g ∧ xr.nrm U' [] r ∧ xu.nrm U' [] u ∧ xw.nrm U' [] w ∧ Eu (a % m) m g r u w e ∧ (-m ≤ w ∧ w ≤ m) ∧ g ≤ m ∧ r ≤ m ∧ E = [(10, .pointer (some ⟨b10, 0, none⟩)), (9, .pointer (some ⟨b9, 0, none⟩)), (8, .pointer (some ⟨b8, 0, none⟩)), (7, .pointer (some ⟨b7, 0, none⟩)), (6, .pointer (some ⟨b6, 0, none⟩)), (4, .pointer (some ⟨b4, 0, none⟩)), (3, .pointer (some ⟨b3, 0, none⟩)), (2, .pointer (some ⟨b2, 0, none⟩)), (5, .bool false)] ∧ ULe Uh4 U' ∧ M' = (b10, .var xw.v, 24) :: (b9, .var xu.v, 24) :: (b8, .var xr.v, 24) :: (b7, .var xg.v, 24) :: (b6, .var xq1.v, 24) :: (b4, .var zeroIV.v, 24) :: (b3, .var y.v, 24) :: (b2, .var x.v, 24) :: M ∧ z = r.toNat) (n0 := m.toNat) (E0 := [(10, .pointer (some ⟨b10, 0, none⟩)), (9, .pointer (some ⟨b9, 0, none⟩)), (8, .pointer (some ⟨b8, 0, none⟩)), (7, .pointer (some ⟨b7, 0, none⟩)), (6, .pointer (some ⟨b6, 0, none⟩)), (4, .pointer (some ⟨b4, 0, none⟩)), (3, .pointer (some ⟨b3, 0, none⟩)), (2, .pointer (some ⟨b2, 0, none⟩)), (5, .bool false)]) ⟨rfl, rfl, rfl, rfl, rfl, rfl, rfl, rfl, rfl, trivial⟩ ⟨xr1, xh2, xh3, xh4, a % m, m, 1, 0, 1, h1.up uc (List.Sublist.refl _), h2.up uc (List.Sublist.refl _), h3.up uc (List.Sublist.refl _), h4.up uc (List.Sublist.refl _), Eu.start ha0 hm, by omega, by omega, by omega, rfl, uc, rfl, rfl⟩ ?_
  clear h2 h3 h4
  rintro z E U5 M' ⟨xg, xr, xu, xw, g, r, u, w, e, hg, hr, hu, hw, hE, hv, hgm, hrm, rfl, hU5, rfl, rfl⟩
  try refine run_s ?_
  have sr : Sz r 900 := sz_le sm (by have := hE.r0; omega)
  have sg : Sz g 900 := sz_le sm (by have := hE.g1; omega)
  have su : Sz u 900 := sz_le sm (by have := hE.ub; omega)
  have sw : Sz w 900 := sz_le sm (by omega)
  refine sl_call rfl rfl rfl rfl rfl rfl (fun _ => rSign_ct (hr.rep.up uc sb) (hr.le sr (by omega))) ?_
  rintro v U' D hU ⟨rfl, rfl, rfl⟩
  repeat (first | refine run_S ?_ | refine w_box (fun _ => ?_) | refine w_al (fun _ => ?_))
  refine st_ne rfl (fun h5 => ?_) (fun h5 => ?_)
  · have hr1 : 1 ≤ r := by
      have h6 : r ≠ 0 := fun e => h5 (by rw [e]; rfl)
      have := hE.r0
      omega
    have hq0 := Int.emod_nonneg g (show r ≠ 0 by omega)
    have hq1 := Int.emod_lt_of_pos g (show 0 < r by omega)
    have hdv := Int.mul_ediv_add_emod g r
    have hqq : 0 ≤ g / r := Int.ediv_nonneg hE.g1 (by omega)
    have hS := hE.step (q := g / r) (s := g % r) hr1 (by rw [Int.mul_comm]; omega) hq0 hqq hv
    have hV := hS.vb hr1
    have sq : Sz (g / r) 900 := sg.div _
    repeat (first | refine run_S ?_ | refine w_box (fun _ => ?_) | refine w_al (fun _ => ?_))
    refine sl_call rfl rfl rfl rfl rfl rfl (fun _ => rEuclid_st (hg.rep.up uc sb) (hg.le sg (by omega)) (hr.rep.up uc sb) (hr.le sr (by omega)) (by omega)) ?_
    rintro v6 U6 D6 hU6 ⟨xq, xs, rfl, hq, hs, rfl⟩
    try rw [List.nil_append]
    repeat (first | refine run_S ?_ | refine w_box (fun _ => ?_) | refine w_al (fun _ => ?_))
    rename_i b11 b12
    refine st_draw2 1 2 [0, 1, 2, 3] [0, 2, 1, 3] sym (by kernel_rfl) (by kernel_rfl) (by kernel_rfl) ?_ ?_
    all_goals
      repeat (first | refine run_S ?_ | refine w_box (fun _ => ?_) | refine w_al (fun _ => ?_))
      refine st_drawM [6, 7] [0, 1, 2, 3, 4, 5, 6, 7] sym (by kernel_rfl) ?_
      repeat (first | refine run_S ?_ | refine w_box (fun _ => ?_) | refine w_al (fun _ => ?_))
      refine sl_call rfl rfl rfl rfl rfl rfl (fun _ => (rMul_ct (hq.rep.up uc sb) (hq.le sq (by omega)) (hw.rep.up uc sb) (hw.le sw (by omega))).settle) ?_
      rintro v Uh7 D hU ⟨rfl, _, _, ⟨xh7, rfl, h7, -⟩, -, -, hs⟩
      replace h7 := h7.sett hs
      clear hs
      repeat (first | refine run_S ?_ | refine w_box (fun _ => ?_) | refine w_al (fun _ => ?_))
      refine sl_call rfl rfl rfl rfl rfl rfl (fun _ => (rSub_ct (hu.rep.up uc sb) (hu.le su (by omega)) (h7.rep.up uc sb) (h7.le (sq.mul sw) (by omega))).settle) ?_
      rintro v Uh8 D hU ⟨rfl, _, _, ⟨xh8, rfl, h8, -⟩, -, -, hs⟩
      replace h8 := h8.sett hs
      clear hs
      repeat (first | refine run_S ?_ | refine w_box (fun _ => ?_) | refine w_al (fun _ => ?_))
      refine sk_anti (M' := (b10, .var xh8.v, 24) :: (b9, .var xw.v, 24) :: (b8, .var xs.v, 24) :: (b7, .var xr.v, 24) :: (b6, .var xq1.v, 24) :: (b4, .var zeroIV.v, 24) :: (b3, .var y.v, 24) :: (b2, .var x.v, 24) :: M) (ULe.refl _) sbk ?_
      exact sk_again (E' := [(10, .pointer (some ⟨b10, 0, none⟩)), (9, .pointer (some ⟨b9, 0, none⟩)), (8, .pointer (some ⟨b8, 0, none⟩)), (7, .pointer (some ⟨b7, 0, none⟩)), (6, .pointer (some ⟨b6, 0, none⟩)), (4, .pointer (some ⟨b4, 0, none⟩)), (3, .pointer (some ⟨b3, 0, none⟩)), (2, .pointer (some ⟨b2, 0, none⟩)), (5, .bool false)]) (m := (g % r).toNat) ⟨rfl, rfl, rfl, rfl, rfl, rfl, rfl, rfl, rfl, trivial⟩ (by omega) ⟨xr, xs, xw, xh8, r, g % r, w, u - g / r * w, -e, hr.up uc (List.Sublist.refl _), hs.up uc (List.Sublist.refl _), hw.up uc (List.Sublist.refl _), h8.up uc (List.Sublist.refl _), hS, hV, by omega, by omega, rfl, uc, rfl, rfl⟩
  · have hr0 : r = 0 := Int.sign_eq_zero_iff_zero.1 (by omega)
    subst hr0
    repeat (first | refine run_S ?_ | refine w_box (fun _ => ?_) | refine w_al (fun _ => ?_))
    refine sl_call rfl rfl rfl rfl rfl rfl (fun _ => rEuclid_st (hu.rep.up uc sb) (hu.le su (by omega)) (hy.up uc sb) (by omega) (by omega)) ?_
    rintro v6 U6 D6 hU6 ⟨xq, xo, rfl, -, ho, rfl⟩
    try rw [List.nil_append]
    repeat (first | refine run_S ?_ | refine w_box (fun _ => ?_) | refine w_al (fun _ => ?_))
    refine st_drawM [4, 5] [0, 1, 2, 3, 4, 5] sym (by kernel_rfl) ?_
    repeat (first | refine run_S ?_ | refine w_box (fun _ => ?_) | refine w_al (fun _ => ?_))
    refine sl_call rfl rfl rfl rfl rfl rfl (fun _ => (rOf_ct (z := 1) (by decide) (by decide)).settle) ?_
    rintro v Uh9 D hU ⟨rfl, _, _, ⟨xh9, rfl, h9, -⟩, -, -, hs⟩
    replace h9 := h9.sett hs
    clear hs
    repeat (first | refine run_S ?_ | refine w_box (fun _ => ?_) | refine w_al (fun _ => ?_))
    refine sl_call rfl rfl rfl rfl rfl rfl (fun _ => rSame_cz (hg.up uc sb) (h9.up uc sb)) ?_
    rintro v U' D hU ⟨rfl, rfl, rfl⟩
    repeat (first | refine run_S ?_ | refine w_box (fun _ => ?_) | refine w_al (fun _ => ?_))
    obtain ⟨f1, f2⟩ := hE.fin
    have o0 := Int.emod_nonneg u (show m ≠ 0 by omega)
    have o1 := Int.emod_lt_of_pos u (show 0 < m by omega)
    repeat (first | refine run_S ?_ | refine w_box (fun _ => ?_) | refine w_al (fun _ => ?_))
    exact sk_ret [] sym rfl (.cons (.cell 7 rfl rfl rfl) (.cons (.tmp rfl) .nil)) uc sb (.inl rfl) ⟨xo, decide (g = 1), u % m, rfl, rfl, ho.up uc (List.Sublist.refl _), o0, o1, fun h => f1 (of_decide_eq_true h), fun h => f2 (of_decide_eq_false h)⟩
end Go.Proofs.Ytpigpikhjlmdoaa
