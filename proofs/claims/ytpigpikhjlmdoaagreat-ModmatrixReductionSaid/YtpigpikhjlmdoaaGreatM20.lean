/- Texts of this seat's own, merged: each begins with its own remark. -/
import Derived.Test.YtpigpikhjlmdoaaGreatM19
import Derived.Test.YtpigpikhjlmdoaaGreatM15
/- Walks of the reference of layer 9: rows of zeros, unit rows, sums of rows. -/
namespace Go.Proofs.YtpigpikhjlmdoaaGreat
open Go.Hp
variable {G : World} {U : UH} {M : MH}
theorem m9Zeros_ct {n : Nat} (hn : n ≤ 1000000000) :
    Ct Tryz.prog 96 [.int .i64 (n : Int)] G U M fun v U' D => Lo Vq TR 4 n U' D v (fun _ => (0 : Rat)) ∧ ULe U U' := by
  refine ct_of_st Tryz.func96 rfl rfl rfl rfl ?_
  repeat (first | refine run_S ?_ | refine w_box (fun _ => ?_) | refine w_al (fun _ => ?_))
  refine st_loop (fun m E U' M' => ∃ (i : Nat) (p : Option Addr) (c : Nat) (vs : List Value) (D : MH), i ≤ n ∧ RowO TR 4 D p i c vs ∧ El Vq U' vs (fun _ => (0 : Rat)) ∧ E = [(3, .slice p i c), (4, .int .i64 (i : Int)), (0, .int .i64 (n : Int))] ∧ ULe U U' ∧ M' = D ++ M ∧ m = n - i) (n0 := n)
    (E0 := [(3, .slice none 0 0), (4, .int .i64 ((0 : Nat) : Int)), (0, .int .i64 (n : Int))]) ⟨rfl, rfl, rfl, trivial⟩ ⟨0, none, 0, [], [], by omega, RowO.nil, El.nil, rfl, uc, rfl, rfl⟩ ?_
  rintro m E U' M' ⟨i, p, c, vs, D, hi, hrow, hel, rfl, hU, rfl, rfl⟩
  try refine run_s ?_
  refine st_dec rfl (fun h => ?_) (fun h => ?_)
  · try refine run_s ?_
    refine sl_call rfl rfl rfl rfl rfl rfl (fun _ => rqOf_ct (z := 0) (by decide) (by decide)) ?_
    rintro v Uh1 D hU ⟨xh1, rfl, h1, rfl⟩
    repeat (first | refine run_S ?_ | refine w_box (fun _ => ?_) | refine w_al (fun _ => ?_))
    refine w_push hrow (List.Perm.refl _) (fun bhr2 phr2 chr2 Dhr2 hr2 => ?_)
    repeat (first | refine run_S ?_ | refine w_box (fun _ => ?_) | refine w_al (fun _ => ?_))
    exact sk_again (E' := [(3, .slice phr2 (i + 1) chr2), (4, .int .i64 ((i : Int) + 1)), (0, .int .i64 (n : Int))]) (m := n - (i + 1)) ⟨rfl, rfl, rfl, trivial⟩ (by omega)
      ⟨i + 1, phr2, chr2, _, Dhr2, by omega, hr2, snoc_ok hrow.len.1 (hel.up kept_q uc) ⟨xh1, rfl, h1⟩, rfl, uc, rfl, rfl⟩
  · try refine run_s ?_
    have e : i = n := by omega
    subst e
    exact sk_ret D sym rfl (.cons (.tmp rfl) .nil) uc sb (.inl rfl) ⟨⟨p, c, vs, rfl, hrow, hel⟩, uc⟩
theorem m9Unit_ct {n i : Nat} (hn : n ≤ 1000000000) (hi : i < n) :
    Ct Tryz.prog 144 [.int .i64 (n : Int), .int .i64 (i : Int)] G U M fun v U' D => Lo Vq TR 4 n U' D v (fun j => if j = i then (1 : Rat) else 0) ∧ ULe U U' := by
  refine ct_of_st Tryz.func144 rfl rfl rfl rfl ?_
  repeat (first | refine run_S ?_ | refine w_box (fun _ => ?_) | refine w_al (fun _ => ?_))
  refine sl_call rfl rfl rfl rfl rfl rfl (fun _ => m9Zeros_ct hn) ?_
  rintro v U1 D1 hU ⟨⟨p, c, vs, rfl, hrow, hel⟩, -⟩
  repeat (first | refine run_S ?_ | refine w_box (fun _ => ?_) | refine w_al (fun _ => ?_))
  refine sl_call rfl rfl rfl rfl rfl rfl (fun _ => rqOf_ct (z := 1) (by decide) (by decide)) ?_
  rintro v Uh1 D hU ⟨xh1, rfl, h1, rfl⟩
  repeat (first | refine run_S ?_ | refine w_box (fun _ => ?_) | refine w_al (fun _ => ?_))
  refine w_addr (j := i) hi (hrow.some (by omega)) ?_
  refine w_storeR (v := xh1.v) hrow (List.Perm.refl _) hi (fun D2 hr2 => ?_)
  repeat (first | refine run_S ?_ | refine w_box (fun _ => ?_) | refine w_al (fun _ => ?_))
  refine sk_ret D2 sym rfl (.cons (.tmp rfl) .nil) uc sb (.inl rfl) ⟨⟨p, c, _, rfl, hr2, set_ok (fun k x hk hne => ?_) ⟨xh1, rfl, ?_⟩⟩, uc⟩
  · rw [if_neg hne]; exact (hel.up kept_q uc) k x hk
  · rw [if_pos rfl]; exact h1
theorem m9Combine_ct {n b : Nat} {vx vy : Value} {xc : QV} {f g : Nat → Rat} {q : Rat} (hx : Ls (Wq b) 4 n U M vx f) (hc : xc.rep U M q) (hcn : xc.le b) (hy : Ls (Wq b) 4 n U M vy g) (hb1 : 1 ≤ b) (hb : b ≤ 10000000000) (hn : n ≤ 1000000000) :
    Ct Tryz.prog 139 [vx, xc.v, vy] G U M fun v U' D => Lo Vq TR 4 n U' D v (fun j => f j + q * g j) ∧ ULe U U' := by
  obtain ⟨px, cx, xs, rfl, -, rx, ex⟩ := hx
  obtain ⟨py, cy, ys, rfl, -, ry, ey⟩ := hy
  have sc := hc.sz hcn hb1
  refine ct_of_st Tryz.func139 rfl rfl rfl rfl ?_
  repeat (first | refine run_S ?_ | refine w_box (fun _ => ?_) | refine w_al (fun _ => ?_))
  rename_i b4
  refine sl_call rfl rfl rfl rfl rfl rfl (fun _ => rqSign_ct (hc.up uc sb) (by omega)) ?_
  rintro v U' D hU ⟨rfl, rfl, rfl⟩
  repeat (first | refine run_S ?_ | refine w_box (fun _ => ?_) | refine w_al (fun _ => ?_))
  refine st_loop (fun m E U' M' => ∃ (i : Nat) (p : Option Addr) (c : Nat) (vs : List Value) (D : MH), i ≤ n ∧ RowO TR 4 D p i c vs ∧ El Vq U' vs (fun j => f j + q * g j) ∧ E = [(7, .slice p i c), (9, .int .i64 (i : Int)), (8, .bool (dec (q.num.sign = 0))), (0, .slice px n cx), (2, .slice py n cy), (4, .pointer (some ⟨b4, 0, none⟩))] ∧ ULe U U' ∧ M' = (b4, .var xc.v, TR) :: (D ++ M) ∧ m = n - i) (n0 := n)
    (E0 := [(7, .slice none 0 0), (9, .int .i64 ((0 : Nat) : Int)), (8, .bool (dec (q.num.sign = 0))), (0, .slice px n cx), (2, .slice py n cy), (4, .pointer (some ⟨b4, 0, none⟩))]) ⟨rfl, rfl, rfl, rfl, rfl, rfl, trivial⟩ ⟨0, none, 0, [], [], by omega, RowO.nil, El.nil, rfl, uc, rfl, rfl⟩ ?_
  rintro m E U' M' ⟨i, p, c, vs, D, hi, hrow, hel, rfl, hU, rfl, rfl⟩
  try refine run_s ?_
  refine st_dec rfl (fun h => ?_) (fun h => ?_)
  · obtain ⟨v1, hv1⟩ := rx.at (k := i) (by omega)
    obtain ⟨x1, rfl, hx1, hn1⟩ := ex _ _ hv1
    obtain ⟨v2, hv2⟩ := ry.at (k := i) (by omega)
    obtain ⟨x2, rfl, hx2, hn2⟩ := ey _ _ hv2
    have rx' := rx.up (U' := U') (M' := (b4, .var xc.v, TR) :: (D ++ M)) hU sb
    have ry' := ry.up (U' := U') (M' := (b4, .var xc.v, TR) :: (D ++ M)) hU sb
    try refine run_s ?_
    refine sl_gdec rfl rfl (fun hq => ?_) (fun hq => ?_)
    · try refine run_s ?_
      refine sl_y (yl_index sym rfl rfl rfl rfl rfl rfl (rx'.lt hv1) (rx'.get _ _ hv1).1) rfl rfl rfl rfl ?_; refine sl_y (yl_loadRs sym rfl rfl rfl rfl rfl rx' hv1) rfl rfl rfl rfl ?_
      refine sl_call rfl rfl rfl rfl rfl rfl (fun _ => rqNormal_ct (hx1.up uc sb) (by omega)) ?_
      rintro v Uh1 D hU ⟨xh1, rfl, h1, rfl⟩
      repeat (first | refine run_S ?_ | refine w_box (fun _ => ?_) | refine w_al (fun _ => ?_))
      refine w_push hrow (perm1 (D := _)).symm (fun bhr2 phr2 chr2 Dhr2 hr2 => ?_)
      refine sl_perm ?_ (perm1 (D := Dhr2))
      repeat (first | refine run_S ?_ | refine w_box (fun _ => ?_) | refine w_al (fun _ => ?_))
      refine sk_again (E' := [(7, .slice phr2 (i + 1) chr2), (9, .int .i64 ((i : Int) + 1)), (8, .bool (dec (q.num.sign = 0))), (0, .slice px n cx), (2, .slice py n cy), (4, .pointer (some ⟨b4, 0, none⟩))]) (m := n - (i + 1)) ⟨rfl, rfl, by rw [dec_true hq]; rfl, rfl, rfl, rfl, trivial⟩ (by omega)
        ⟨i + 1, phr2, chr2, _, Dhr2, by omega, hr2, snoc_ok hrow.len.1 (hel.up kept_q uc) ⟨xh1, rfl, ?_⟩, rfl, uc, rfl, rfl⟩
      rw [rat_num_zero.1 (Int.sign_eq_zero_iff_zero.1 hq), Rat.zero_mul, Rat.add_zero]; exact h1
    · try refine run_s ?_
      refine sl_y (yl_index sym rfl rfl rfl rfl rfl rfl (ry'.lt hv2) (ry'.get _ _ hv2).1) rfl rfl rfl rfl ?_; refine sl_y (yl_loadRs sym rfl rfl rfl rfl rfl ry' hv2) rfl rfl rfl rfl ?_
      refine sl_call rfl rfl rfl rfl rfl rfl (fun _ => rqSign_ct (hx2.up uc sb) (by omega)) ?_
      rintro v U' D hU ⟨rfl, rfl, rfl⟩
      repeat (first | refine run_S ?_ | refine w_box (fun _ => ?_) | refine w_al (fun _ => ?_))
      refine st_eq rfl (fun hg => ?_) (fun hg => ?_)
      · try refine run_s ?_
        refine sl_y (yl_index sym rfl rfl rfl rfl rfl rfl (rx'.lt hv1) (rx'.get _ _ hv1).1) rfl rfl rfl rfl ?_; refine sl_y (yl_loadRs sym rfl rfl rfl rfl rfl rx' hv1) rfl rfl rfl rfl ?_
        refine sl_call rfl rfl rfl rfl rfl rfl (fun _ => rqNormal_ct (hx1.up uc sb) (by omega)) ?_
        rintro v Uh1 D hU ⟨xh1, rfl, h1, rfl⟩
        repeat (first | refine run_S ?_ | refine w_box (fun _ => ?_) | refine w_al (fun _ => ?_))
        refine w_push hrow (perm1 (D := _)).symm (fun bhr2 phr2 chr2 Dhr2 hr2 => ?_)
        refine sl_perm ?_ (perm1 (D := Dhr2))
        repeat (first | refine run_S ?_ | refine w_box (fun _ => ?_) | refine w_al (fun _ => ?_))
        refine sk_again (E' := [(7, .slice phr2 (i + 1) chr2), (9, .int .i64 ((i : Int) + 1)), (8, .bool (dec (q.num.sign = 0))), (0, .slice px n cx), (2, .slice py n cy), (4, .pointer (some ⟨b4, 0, none⟩))]) (m := n - (i + 1)) ⟨rfl, rfl, by rw [dec_false hq]; rfl, rfl, rfl, rfl, trivial⟩ (by omega)
          ⟨i + 1, phr2, chr2, _, Dhr2, by omega, hr2, snoc_ok hrow.len.1 (hel.up kept_q uc) ⟨xh1, rfl, ?_⟩, rfl, uc, rfl, rfl⟩
        rw [rat_num_zero.1 (Int.sign_eq_zero_iff_zero.1 hg), Rat.mul_zero, Rat.add_zero]; exact h1
      · try refine run_s ?_
        refine st_drawM [11, 12, 13, 14] [0, 1, 2, 3, 4, 5, 6, 7, 8, 9, 10, 11, 12, 13, 14] sym (by kernel_rfl) ?_
        try refine run_s ?_
        refine sl_y (yl_index sym rfl rfl rfl rfl rfl rfl (rx'.lt hv1) (rx'.get _ _ hv1).1) rfl rfl rfl rfl ?_; refine sl_y (yl_loadRs sym rfl rfl rfl rfl rfl rx' hv1) rfl rfl rfl rfl ?_
        try refine run_s ?_
        refine sl_y (yl_index sym rfl rfl rfl rfl rfl rfl (ry'.lt hv2) (ry'.get _ _ hv2).1) rfl rfl rfl rfl ?_; refine sl_y (yl_loadRs sym rfl rfl rfl rfl rfl ry' hv2) rfl rfl rfl rfl ?_
        refine sl_call rfl rfl rfl rfl rfl rfl (fun _ => rqMul_ct (hc.up uc sb) (by omega) (hx2.up uc sb) (by omega)) ?_
        rintro v Uh1 D hU ⟨xh1, rfl, h1, rfl⟩
        repeat (first | refine run_S ?_ | refine w_box (fun _ => ?_) | refine w_al (fun _ => ?_))
        refine sl_call rfl rfl rfl rfl rfl rfl (fun _ => rqAdd_ct (hx1.up uc sb) (by omega) (h1.rep.up uc sb) (h1.le (sc.mul (hx2.sz hn2 hb1)) (by omega))) ?_
        rintro v Uh2 D hU ⟨xh2, rfl, h2, rfl⟩
        repeat (first | refine run_S ?_ | refine w_box (fun _ => ?_) | refine w_al (fun _ => ?_))
        refine w_push hrow (perm1 (D := _)).symm (fun bhr2 phr2 chr2 Dhr2 hr2 => ?_)
        refine sl_perm ?_ (perm1 (D := Dhr2))
        repeat (first | refine run_S ?_ | refine w_box (fun _ => ?_) | refine w_al (fun _ => ?_))
        exact sk_again (E' := [(7, .slice phr2 (i + 1) chr2), (9, .int .i64 ((i : Int) + 1)), (8, .bool (dec (q.num.sign = 0))), (0, .slice px n cx), (2, .slice py n cy), (4, .pointer (some ⟨b4, 0, none⟩))]) (m := n - (i + 1)) ⟨rfl, rfl, by rw [dec_false hq]; rfl, rfl, rfl, rfl, trivial⟩ (by omega)
          ⟨i + 1, phr2, chr2, _, Dhr2, by omega, hr2, snoc_ok hrow.len.1 (hel.up kept_q uc) ⟨xh2, rfl, h2⟩, rfl, uc, rfl, rfl⟩
  · try refine run_s ?_
    have e : i = n := by omega
    subst e
    exact sk_ret D sym rfl (.cons (.tmp rfl) .nil) uc sb (.inl rfl) ⟨⟨p, c, vs, rfl, hrow, hel⟩, uc⟩
end Go.Proofs.YtpigpikhjlmdoaaGreat

/- Walks of the reference of layer 9: elements, rows and matrices. -/
namespace Go.Proofs.YtpigpikhjlmdoaaGreat
open Go.Hp
variable {G : World} {U : UH} {M : MH}
theorem m9At_ct {r c i j b : Nat} {vm : Value} {A : Nat → Nat → Rat} (hm : Vm (Wq b) r c U vm A) (hi : i < r) (hj : j < c) (hb : b ≤ 10000000000) (hrc : r * c ≤ 100000000) :
    Ct Tryz.prog 145 [vm, .int .i64 (i : Int), .int .i64 (j : Int)] G U M fun v U' D => Vq U' v (A i j) ∧ D = [] := by
  obtain ⟨_, rfl, p, cc, vs, rfl, -, rw1, el⟩ := hm
  have hlt := ij_lt hi hj
  obtain ⟨v1, hv1⟩ := rw1.at hlt
  obtain ⟨x1, rfl, hx1, hn1⟩ := el _ _ hv1
  rw [fl_at hj] at hx1
  refine ct_of_st Tryz.func145 rfl rfl rfl rfl ?_
  repeat (first | refine run_S ?_ | refine w_box (fun _ => ?_) | refine w_al (fun _ => ?_))
  refine sl_y (yl_index sym rfl rfl rfl rfl rfl ( by omega) ((rw1.up uc sb).lt hv1) ((rw1.up uc sb).get _ _ hv1).1) rfl rfl rfl rfl ?_; refine sl_y (yl_loadRs sym rfl rfl rfl rfl rfl (rw1.up uc sb) hv1) rfl rfl rfl rfl ?_
  refine sl_call rfl rfl rfl rfl rfl rfl (fun _ => rqNormal_ct (hx1.up uc sb) (by omega)) ?_
  rintro v Uh1 D hU ⟨xh1, rfl, h1, rfl⟩
  repeat (first | refine run_S ?_ | refine w_box (fun _ => ?_) | refine w_al (fun _ => ?_))
  exact sk_ret [] sym rfl (.cons (.cell 0 rfl rfl rfl) .nil) uc sb (.inl rfl) ⟨⟨xh1, rfl, h1⟩, rfl⟩
theorem m9Rows_co {r c b : Nat} {vm : Value} {A : Nat → Nat → Rat} (hm : Vm (Wq b) r c U vm A) (hb : b ≤ 10000000000) (hr : r ≤ 1000000) (hrc : r * c ≤ 100000000) (hc : c ≤ 100000000) :
    Ct Tryz.prog 44 [vm] G U M fun v U' D => Go rO r c U' D v A ∧ ULe U U' := by
  obtain ⟨_, rfl, p, cc, vs, rfl, -, rw1, el⟩ := hm
  refine ct_of_st Tryz.func44 rfl rfl rfl rfl ?_
  repeat (first | refine run_S ?_ | refine w_box (fun _ => ?_) | refine w_al (fun _ => ?_))
  rename_i b1
  refine st_loop (fun m E U' M' => ∃ (i : Nat) (P : Option Addr) (C : Nat) (svs : List Value) (D : MH) (F : List MH), i ≤ r ∧ RowO TRs 1 D P i C svs ∧ Gs rO c U' svs F A ∧ E = [(3, .slice P i C), (4, .int .i64 (i : Int)), (1, .pointer (some ⟨b1, 0, none⟩))] ∧ ULe U U' ∧
      M' = (b1, .var (.agg #[.int .i64 (r : Int), .int .i64 (c : Int), .slice p (r * c) cc]), TM) :: (D ++ (F.flatten ++ M)) ∧ m = r - i) (n0 := r)
    (E0 := [(3, .slice none 0 0), (4, .int .i64 ((0 : Nat) : Int)), (1, .pointer (some ⟨b1, 0, none⟩))]) ⟨rfl, rfl, rfl, trivial⟩ ⟨0, none, 0, [], [], [], by omega, RowO.nil, Gs.nil, rfl, uc, rfl, rfl⟩ ?_
  rintro m E U1 M' ⟨i, P, C, svs, Do, F, hi, hrow, hg, rfl, hU1, rfl, rfl⟩
  try refine run_s ?_
  refine st_dec rfl (fun h => ?_) (fun h => ?_)
  · have hir : i < r := by omega
    try refine run_s ?_
    refine st_loop (fun m E U' M' => ∃ (j : Nat) (q : Option Addr) (c' : Nat) (us : List Value) (D : MH), j ≤ c ∧ RowO TR 4 D q j c' us ∧ El Vq U' us (A i) ∧ E = [(5, .slice q j c'), (6, .int .i64 (j : Int)), (3, .slice P i C), (4, .int .i64 (i : Int)), (1, .pointer (some ⟨b1, 0, none⟩))] ∧ ULe U1 U' ∧
        M' = (b1, .var (.agg #[.int .i64 (r : Int), .int .i64 (c : Int), .slice p (r * c) cc]), TM) :: (D ++ (Do ++ (F.flatten ++ M))) ∧ m = c - j) (n0 := c)
      (E0 := [(5, .slice none 0 0), (6, .int .i64 ((0 : Nat) : Int)), (3, .slice P i C), (4, .int .i64 (i : Int)), (1, .pointer (some ⟨b1, 0, none⟩))]) ⟨rfl, rfl, rfl, rfl, rfl, trivial⟩ ⟨0, none, 0, [], [], by omega, RowO.nil, El.nil, rfl, uc, rfl, rfl⟩ ?_
    rintro m E U2 M' ⟨j, q, c', us, Dr, hj, hrow2, hel, rfl, hU2, rfl, rfl⟩
    try refine run_s ?_
    refine st_dec rfl (fun h2 => ?_) (fun h2 => ?_)
    · have hjc : j < c := by omega
      have hlt := ij_lt hir hjc
      obtain ⟨v1, hv1⟩ := rw1.at hlt
      obtain ⟨x1, rfl, hx1, hn1⟩ := el _ _ hv1
      rw [fl_at hjc] at hx1
      try refine run_s ?_
      refine sl_y (yl_index sym rfl rfl rfl rfl rfl ( by omega) ((rw1.up uc sb).lt hv1) ((rw1.up uc sb).get _ _ hv1).1) rfl rfl rfl rfl ?_; refine sl_y (yl_loadRs sym rfl rfl rfl rfl rfl (rw1.up uc sb) hv1) rfl rfl rfl rfl ?_
      refine sl_call rfl rfl rfl rfl rfl rfl (fun _ => rqNormal_ct (hx1.up uc sb) (by omega)) ?_
      rintro v Uh1 D hU ⟨xh1, rfl, h1, rfl⟩
      repeat (first | refine run_S ?_ | refine w_box (fun _ => ?_) | refine w_al (fun _ => ?_))
      refine w_push hrow2 (perm1 (D := _)).symm (fun bhr2 phr2 chr2 Dhr2 hr2 => ?_)
      refine sl_perm ?_ (perm1 (D := Dhr2))
      repeat (first | refine run_S ?_ | refine w_box (fun _ => ?_) | refine w_al (fun _ => ?_))
      exact sk_again (E' := [(5, .slice phr2 (j + 1) chr2), (6, .int .i64 ((j : Int) + 1)), (3, .slice P i C), (4, .int .i64 (i : Int)), (1, .pointer (some ⟨b1, 0, none⟩))]) (m := c - (j + 1)) ⟨rfl, rfl, rfl, rfl, rfl, trivial⟩ (by omega)
        ⟨j + 1, phr2, chr2, _, Dhr2, by omega, hr2, snoc_ok hrow2.len.1 (hel.up kept_q uc) ⟨xh1, rfl, h1⟩, rfl, uc, rfl, rfl⟩
    · have e : j = c := by omega
      subst e
      try refine run_s ?_
      refine w_push (X := (b1, .var (.agg #[.int .i64 (r : Int), .int .i64 (j : Int), .slice p (r * j) cc]), TM) :: (Dr ++ (F.flatten ++ M))) hrow ((swp1 (A := Dr) (B := Do)).trans perm1.symm) (fun b2 P2 C2 D2 hr2 => ?_)
      refine sl_perm ?_ perm1
      try refine run_s ?_
      refine sk_perm (M' := (b1, .var (.agg #[.int .i64 (r : Int), .int .i64 (j : Int), .slice p (r * j) cc]), TM) :: (D2 ++ ((F ++ [Dr]).flatten ++ M))) ?_ ?_
      · rw [List.flatten_append, List.flatten_singleton, List.append_assoc]
        exact (List.perm_append_comm_assoc ..).append_left D2 |>.cons _
      · exact sk_again (E' := [(3, .slice P2 (i + 1) C2), (4, .int .i64 ((i : Int) + 1)), (1, .pointer (some ⟨b1, 0, none⟩))]) (m := r - (i + 1)) ⟨rfl, rfl, rfl, trivial⟩ (by omega)
          ⟨i + 1, P2, C2, _, D2, F ++ [Dr], by omega, hr2, (hg.up uc).snoc hrow.len.1 hrow2.len.2.1 hrow2 hel, rfl, uc, rfl, rfl⟩
  · try refine run_s ?_
    have e : i = r := by omega
    subst e
    exact sk_ret (Do ++ F.flatten) sym rfl (.cons (.tmp rfl) .nil) uc sb (.inl rfl) ⟨⟨Do, F, P, C, svs, rfl, rfl, hrow, hg⟩, uc⟩
end Go.Proofs.YtpigpikhjlmdoaaGreat

/- Walks of the reference of layer 9: matrices of rows, products, sums, transposes. -/
namespace Go.Proofs.YtpigpikhjlmdoaaGreat
open Go.Hp
variable {G : World} {U : UH} {M : MH}
theorem m9Of_ct {r c b : Nat} {vr : Value} {A : Nat → Nat → Rat} (hm : Ls (Wr b c) 1 r U M vr A) (hb : b ≤ 10000000000) (hr : r ≤ 1000000) (hrc : r * c ≤ 100000000) (hc : c ≤ 100000000) :
    Ct Tryz.prog 88 [.int .i64 (c : Int), vr] G U M fun v U' D => Vmo r c U' D v A ∧ ULe U U' := by
  obtain ⟨p, cc, rs, rfl, -, rw1, el⟩ := hm
  refine ct_of_st Tryz.func88 rfl rfl rfl rfl ?_
  repeat (first | refine run_S ?_ | refine w_box (fun _ => ?_) | refine w_al (fun _ => ?_))
  rename_i b4 b5
  refine st_loop (fun m E U' M' => ∃ (i : Nat) (P : Option Addr) (C : Nat) (vs : List Value) (D : MH), i ≤ r ∧ RowO TR 4 D P (i * c) C vs ∧ El Vq U' vs (fl c A) ∧ E = [(6, .int .i64 (i : Int)), (0, .int .i64 (c : Int)), (1, .slice p r cc), (4, .pointer (some ⟨b4, 0, none⟩)), (5, .pointer (some ⟨b5, 0, none⟩))] ∧ ULe U U' ∧
      M' = (b5, .var (.agg #[.int .i64 (r : Int), .int .i64 (c : Int), .slice P (i * c) C]), TM) :: (b4, .var (.agg #[.int .i64 0, .int .i64 0, .slice none 0 0]), TM) :: (D ++ M) ∧ m = r - i) (n0 := r)
    (E0 := [(6, .int .i64 ((0 : Nat) : Int)), (0, .int .i64 (c : Int)), (1, .slice p r cc), (4, .pointer (some ⟨b4, 0, none⟩)), (5, .pointer (some ⟨b5, 0, none⟩))]) ⟨rfl, rfl, rfl, rfl, rfl, trivial⟩ ⟨0, none, 0, [], [], by omega, by rw [Nat.zero_mul]; exact RowO.nil, El.nil, rfl, uc, by rw [Nat.zero_mul]; rfl, rfl⟩ ?_
  rintro m E U1 M' ⟨i, P, C, vs, D, hi, hrow, hel, rfl, hU1, rfl, rfl⟩
  try refine run_s ?_
  refine st_dec rfl (fun h => ?_) (fun h => ?_)
  · have hir : i < r := by omega
    obtain ⟨v1, hv1⟩ := rw1.at hir
    obtain ⟨p2, c2, us, rfl, -, rw2, el2⟩ := el _ _ hv1
    try refine run_s ?_
    refine st_loop (fun m E U' M' => ∃ (j : Nat) (P : Option Addr) (C : Nat) (vs : List Value) (D : MH), j ≤ c ∧ RowO TR 4 D P (i * c + j) C vs ∧ El Vq U' vs (fl c A) ∧ E = [(7, .int .i64 (j : Int)), (6, .int .i64 (i : Int)), (0, .int .i64 (c : Int)), (1, .slice p r cc), (4, .pointer (some ⟨b4, 0, none⟩)), (5, .pointer (some ⟨b5, 0, none⟩))] ∧ ULe U U' ∧
        M' = (b5, .var (.agg #[.int .i64 (r : Int), .int .i64 (c : Int), .slice P (i * c + j) C]), TM) :: (b4, .var (.agg #[.int .i64 0, .int .i64 0, .slice none 0 0]), TM) :: (D ++ M) ∧ m = c - j) (n0 := c)
      (E0 := [(7, .int .i64 ((0 : Nat) : Int)), (6, .int .i64 (i : Int)), (0, .int .i64 (c : Int)), (1, .slice p r cc), (4, .pointer (some ⟨b4, 0, none⟩)), (5, .pointer (some ⟨b5, 0, none⟩))]) ⟨rfl, rfl, rfl, rfl, rfl, rfl, trivial⟩ ⟨0, P, C, vs, D, by omega, hrow, hel, rfl, uc, rfl, rfl⟩ ?_
    rintro m E U2 M' ⟨j, P, C, vs, D, hj, hrow, hel, rfl, hU2, rfl, rfl⟩
    try refine run_s ?_
    refine st_dec rfl (fun h2 => ?_) (fun h2 => ?_)
    · have hjc : j < c := by omega
      have hlt := ij_lt hir hjc
      obtain ⟨v2, hv2⟩ := rw2.at hjc
      obtain ⟨x1, rfl, hx1, hn1⟩ := el2 _ _ hv2
      try refine run_s ?_
      refine st_drawM [11, 12, 13] [0, 1, 2, 3, 4, 5, 6, 7, 8, 9, 10, 11, 12, 13] sym (by kernel_rfl) ?_
      try refine run_s ?_
      refine sl_y (yl_index sym rfl rfl rfl rfl rfl rfl ((rw1.up uc sb).lt hv1) ((rw1.up uc sb).get _ _ hv1).1) rfl rfl rfl rfl ?_; refine sl_y (yl_loadR1 sym rfl rfl rfl rfl (rw1.up uc sb) hv1 rfl) rfl rfl rfl rfl ?_
      try refine run_s ?_
      refine sl_y (yl_index sym rfl rfl rfl rfl rfl rfl ((rw2.up uc sb).lt hv2) ((rw2.up uc sb).get _ _ hv2).1) rfl rfl rfl rfl ?_; refine sl_y (yl_loadRs sym rfl rfl rfl rfl rfl (rw2.up uc sb) hv2) rfl rfl rfl rfl ?_
      refine sl_call rfl rfl rfl rfl rfl rfl (fun _ => rqNormal_ct (hx1.up uc sb) (by omega)) ?_
      rintro v Uh1 D hU ⟨xh1, rfl, h1, rfl⟩
      repeat (first | refine run_S ?_ | refine w_box (fun _ => ?_) | refine w_al (fun _ => ?_))
      refine w_push hrow (perm2 (D := _)).symm (fun bhr2 phr2 chr2 Dhr2 hr2 => ?_)
      refine sl_perm ?_ (perm2 (D := Dhr2))
      repeat (first | refine run_S ?_ | refine w_box (fun _ => ?_) | refine w_al (fun _ => ?_))
      refine sl_storeF 0 sym rfl rfl rfl rfl rfl rfl rfl rfl rfl rfl rfl ?_
      try refine run_s ?_
      exact sk_again (E' := [(7, .int .i64 ((j : Int) + 1)), (6, .int .i64 (i : Int)), (0, .int .i64 (c : Int)), (1, .slice p r cc), (4, .pointer (some ⟨b4, 0, none⟩)), (5, .pointer (some ⟨b5, 0, none⟩))]) (m := c - (j + 1)) ⟨rfl, rfl, rfl, rfl, rfl, rfl, trivial⟩ (by omega)
        ⟨j + 1, phr2, chr2, _, Dhr2, by omega, hr2, snoc_ok hrow.len.1 (hel.up kept_q uc) ⟨xh1, rfl, by rw [fl_at hjc]; exact h1⟩, rfl, uc, rfl, rfl⟩
    · have e : j = c := by omega
      subst e
      have e2 : i * j + j = (i + 1) * j := by rw [Nat.add_mul, Nat.one_mul]
      rw [e2] at hrow ⊢
      try refine run_s ?_
      exact sk_again (E' := [(6, .int .i64 ((i : Int) + 1)), (0, .int .i64 (j : Int)), (1, .slice p r cc), (4, .pointer (some ⟨b4, 0, none⟩)), (5, .pointer (some ⟨b5, 0, none⟩))]) (m := r - (i + 1)) ⟨rfl, rfl, rfl, rfl, rfl, trivial⟩ (by omega)
        ⟨i + 1, P, C, vs, D, by omega, hrow, hel, rfl, uc, rfl, rfl⟩
  · have e : i = r := by omega
    subst e
    repeat (first | refine run_S ?_ | refine w_box (fun _ => ?_) | refine w_al (fun _ => ?_))
    exact sk_ret D sym rfl (.cons (.cell 1 rfl rfl rfl) .nil) uc sb (.inl rfl) ⟨⟨_, rfl, P, C, vs, rfl, hrow, hel⟩, uc⟩
theorem m9Identity_ct {n : Nat} (hn : n ≤ 1000) :
    Ct Tryz.prog 97 [.int .i64 (n : Int)] G U M fun v U' D => Vm Vq n n U' v La.idm ∧ D = [] := by
  have hnn : n * n ≤ 1000 * 1000 := Nat.mul_le_mul hn hn
  refine ct_of_st Tryz.func97 rfl rfl rfl rfl ?_
  repeat (first | refine run_S ?_ | refine w_box (fun _ => ?_) | refine w_al (fun _ => ?_))
  rename_i b2
  refine st_loop (fun m E U' M' => ∃ (i : Nat) (P : Option Addr) (C : Nat) (vs : List Value) (D : MH), i ≤ n ∧ RowO TRs 1 D P i C vs ∧ El (Vr n) U' vs La.idm ∧ E = [(3, .slice P i C), (4, .int .i64 (i : Int)), (0, .int .i64 (n : Int)), (2, .pointer (some ⟨b2, 0, none⟩))] ∧ ULe U U' ∧
      M' = (b2, .var (.agg #[.int .i64 0, .int .i64 0, .slice none 0 0]), TM) :: (D ++ M) ∧ m = n - i) (n0 := n)
    (E0 := [(3, .slice none 0 0), (4, .int .i64 ((0 : Nat) : Int)), (0, .int .i64 (n : Int)), (2, .pointer (some ⟨b2, 0, none⟩))]) ⟨rfl, rfl, rfl, rfl, trivial⟩ ⟨0, none, 0, [], [], by omega, RowO.nil, El.nil, rfl, uc, rfl, rfl⟩ ?_
  rintro m E U1 M' ⟨i, P, C, vs, D, hi, hrow, hel, rfl, hU1, rfl, rfl⟩
  try refine run_s ?_
  refine st_dec rfl (fun h => ?_) (fun h => ?_)
  · try refine run_s ?_
    refine sl_call rfl rfl rfl rfl rfl rfl (fun _ => (m9Unit_ct (n := n) (i := i) (by omega) (by omega)).setl kept_q) ?_
    rintro v U2 D2 hU ⟨⟨p, c, us, rfl, hc, hr, he⟩, rfl⟩
    repeat (first | refine run_S ?_ | refine w_box (fun _ => ?_) | refine w_al (fun _ => ?_))
    refine w_push hrow (perm1 (D := _)).symm (fun bhr2 phr2 chr2 Dhr2 hr2 => ?_)
    refine sl_perm ?_ (perm1 (D := Dhr2))
    repeat (first | refine run_S ?_ | refine w_box (fun _ => ?_) | refine w_al (fun _ => ?_))
    exact sk_again (E' := [(3, .slice phr2 (i + 1) chr2), (4, .int .i64 ((i : Int) + 1)), (0, .int .i64 (n : Int)), (2, .pointer (some ⟨b2, 0, none⟩))]) (m := n - (i + 1)) ⟨rfl, rfl, rfl, rfl, trivial⟩ (by omega)
      ⟨i + 1, phr2, chr2, _, Dhr2, by omega, hr2, snoc_ok hrow.len.1 (hel.up kept_r uc) (Ls.congr ⟨p, c, us, rfl, hc, hr, he⟩ fun k _ => by unfold La.idm; by_cases e : k = i <;> simp [e, Ne.symm]), rfl, uc, rfl, rfl⟩
  · have e : i = n := by omega
    subst e
    have sz : ∀ k j, k < i → j < i → Szq ((La.idm : La.Mx Rat) k j) 1 := fun k j _ _ => by
      unfold La.idm; split
      · exact szq_int1
      · exact szq_int0
    repeat (first | refine run_S ?_ | refine w_box (fun _ => ?_) | refine w_al (fun _ => ?_))
    refine sl_call rfl rfl rfl rfl rfl rfl (fun _ => ct_setm (m9Of_ct (b := 1) (Ls.toWr ((Lo.at ⟨P, C, vs, rfl, hrow, hel⟩ sb).up kept_r uc sb) sz) (by omega) (by omega) (by omega) (by omega))) ?_
    rintro vh1 Uh1 D hU ⟨h1, rfl⟩
    rw [List.nil_append]
    repeat (first | refine run_S ?_ | refine w_box (fun _ => ?_) | refine w_al (fun _ => ?_))
    obtain ⟨_, rfl, pa, ca, va, rfl, h2⟩ := h1
    repeat (first | refine run_S ?_ | refine w_box (fun _ => ?_) | refine w_al (fun _ => ?_))
    exact sk_ret [] sym rfl (.cons (.cell 0 rfl rfl rfl) .nil) uc sb (.inl rfl) ⟨⟨_, rfl, pa, ca, va, rfl, h2⟩, rfl⟩
end Go.Proofs.YtpigpikhjlmdoaaGreat

/- Walks of the reference of layer 9: products, sums, transposes, traces. -/
namespace Go.Proofs.YtpigpikhjlmdoaaGreat
open Go.Hp
variable {G : World} {U : UH} {M : MH}
theorem sm_snoc (n : Nat) (f : Nat → Rat) : La.sm n f + f n = La.sm (n + 1) f := rfl
theorem m9Apply_ct {r c b : Nat} {vx vt : Value} {f : Nat → Rat} {A : Nat → Nat → Rat} (hx : Ls (Wq b) 4 r U M vx f) (ht : Vm (Wq b) r c U vt A) (hb1 : 1 ≤ b) (hB : 1 + r * (2 * b + 1) ≤ 10000000000) (hbb : b ≤ 10000000000) (hr : r ≤ 1000000) (hc : c ≤ 1000000) (hrc : r * c ≤ 100000000) :
    Ct Tryz.prog 87 [vx, vt] G U M fun v U' D => Lo Vq TR 4 c U' D v (fun j => La.sm r fun i => f i * A i j) ∧ ULe U U' := by
  have sA : ∀ i j, i < r → j < c → Szq (A i j) b := fun i j hi hj => ht.sz hb1 hi hj
  have ht2 := ht
  obtain ⟨_, rfl, pm, cm, ms, rfl, -⟩ := ht
  obtain ⟨px, cx, xs, rfl, -, rx, ex⟩ := hx
  refine ct_of_st Tryz.func87 rfl rfl rfl rfl ?_
  repeat (first | refine run_S ?_ | refine w_box (fun _ => ?_) | refine w_al (fun _ => ?_))
  rename_i b3
  refine sl_call rfl rfl rfl rfl rfl rfl (fun _ => m9Zeros_ct (n := c) (by omega)) ?_
  rintro v0 U1 D1 hU ⟨h1, -⟩
  refine sl_perm ?_ (perm1 (D := D1))
  repeat (first | refine run_S ?_ | refine w_box (fun _ => ?_) | refine w_al (fun _ => ?_))
  refine sl_call rfl rfl rfl rfl rfl rfl (fun _ => ct_setg (m9Rows_co (kept_m kept_w _ _ _ _ uc ht2) hbb hr hrc (by omega))) ?_
  rintro v2 U2 D hU ⟨⟨pr, cr, rs, rfl, -, rr, er⟩, rfl⟩
  rw [List.nil_append]
  try refine run_s ?_
  refine st_loop (fun m E U' M' => ∃ (i : Nat) (vo : Value) (D : MH), i ≤ r ∧ Lo Vq TR 4 c U' D vo (fun j => La.sm i fun i => f i * A i j) ∧ E = [(5, vo), (7, .int .i64 (i : Int)), (0, .slice px r cx), (6, .slice pr r cr)] ∧ ULe U2 U' ∧
      M' = (b3, .var (.agg #[.int .i64 (r : Int), .int .i64 (c : Int), .slice pm (r * c) cm]), TM) :: (D ++ M) ∧ m = r - i) (n0 := r)
    (E0 := [(5, v0), (7, .int .i64 ((0 : Nat) : Int)), (0, .slice px r cx), (6, .slice pr r cr)]) ⟨rfl, rfl, rfl, rfl, trivial⟩ ⟨0, v0, D1, by omega, h1.up kept_q uc, rfl, uc, rfl, rfl⟩ ?_
  rintro m E U3 M' ⟨i, vo, D, hi, ho, rfl, hU3, rfl, rfl⟩
  try refine run_s ?_
  refine st_dec rfl (fun h => ?_) (fun h => ?_)
  · have hir : i < r := by omega
    obtain ⟨v1, hv1⟩ := rx.at hir
    obtain ⟨x1, rfl, hx1, hn1⟩ := ex _ _ hv1
    obtain ⟨v2, hv2⟩ := rr.at hir
    have e2 := er _ _ hv2
    obtain ⟨p2, c2, us, rfl, hc2, rw2, el2⟩ := id e2
    have so : ∀ j, j < c → Szq (La.sm i fun i => f i * A i j) (1 + r * (2 * b + 1)) := fun j hj => (szq_sm fun k hk => (((ex.sz rx hb1 (by omega : k < r)).mul (sA k j (by omega) hj)).mono (by omega : b + b ≤ 2 * b))).mono (by
      have := Nat.mul_le_mul_right (2 * b + 1) hi
      omega)
    have hbB : b ≤ 1 + r * (2 * b + 1) := by
      have := Nat.mul_le_mul_right (2 * b + 1) (show 1 ≤ r by omega)
      omega
    try refine run_s ?_
    refine sl_y (yl_index sym rfl rfl rfl rfl rfl rfl ((rx.up uc sb).lt hv1) ((rx.up uc sb).get _ _ hv1).1) rfl rfl rfl rfl ?_; refine sl_y (yl_loadRs sym rfl rfl rfl rfl rfl (rx.up uc sb) hv1) rfl rfl rfl rfl ?_
    refine sl_call rfl rfl rfl rfl rfl rfl (fun _ => rqSign_ct (hx1.up uc sb) (by omega)) ?_
    rintro v U' D hU ⟨rfl, rfl, rfl⟩
    repeat (first | refine run_S ?_ | refine w_box (fun _ => ?_) | refine w_al (fun _ => ?_))
    refine st_ne rfl (fun hq => ?_) (fun hq => ?_)
    · try refine run_s ?_
      refine st_draw [0, 1, 2, 3, 4, 5, 6, 7, 8, 9, 10] sym (by kernel_rfl) ?_
      try refine run_s ?_
      refine sl_y (yl_index sym rfl rfl rfl rfl rfl rfl ((rx.up uc sb).lt hv1) ((rx.up uc sb).get _ _ hv1).1) rfl rfl rfl rfl ?_; refine sl_y (yl_loadRs sym rfl rfl rfl rfl rfl (rx.up uc sb) hv1) rfl rfl rfl rfl ?_
      try refine run_s ?_
      refine sl_y (yl_index sym rfl rfl rfl rfl rfl rfl ((rr.up uc sb).lt hv2) ((rr.up uc sb).get _ _ hv2).1) rfl rfl rfl rfl ?_; refine sl_y (yl_loadR1 sym rfl rfl rfl rfl (rr.up uc sb) hv2 rfl) rfl rfl rfl rfl ?_
      try refine run_s ?_
      refine sl_call rfl rfl rfl rfl rfl rfl (fun _ => m9Combine_ct (b := 1 + r * (2 * b + 1)) (((ho.up kept_q uc).at sb).toW so) ((hx1.up uc sb)) (by omega) ((Ls.up (M' := _) (e2.toW fun j hj => (sA i j hir hj).mono hbB) kept_w uc sb)) (by omega) hB (by omega)) ?_
      rintro v4 U4 D4 hU ⟨h4, -⟩
      refine sl_perm ?_ (perm1 (D := D4))
      refine sl_drop (M' := (b3, .var (.agg #[.int .i64 (r : Int), .int .i64 (c : Int), .slice pm (r * c) cm]), TM) :: (D4 ++ M)) sbk ?_
      try refine run_s ?_
      exact sk_again (E' := [(5, v4), (7, .int .i64 ((i : Int) + 1)), (0, .slice px r cx), (6, .slice pr r cr)]) (m := r - (i + 1)) ⟨rfl, rfl, rfl, rfl, trivial⟩ (by omega) ⟨i + 1, v4, D4, by omega, h4, rfl, uc, rfl, rfl⟩
    · try refine run_s ?_
      refine sk_again (E' := [(5, vo), (7, .int .i64 ((i : Int) + 1)), (0, .slice px r cx), (6, .slice pr r cr)]) (m := r - (i + 1)) ⟨rfl, rfl, rfl, rfl, trivial⟩ (by omega) ⟨i + 1, vo, D, by omega, ho.congr fun j _ => ?_, rfl, uc, rfl, rfl⟩
      rw [← sm_snoc, rat_num_zero.1 (Int.sign_eq_zero_iff_zero.1 hq), Rat.zero_mul, Rat.add_zero]
  · have e : i = r := by omega
    subst e
    try refine run_s ?_
    exact sk_ret D sym rfl (.cons (.tmp rfl) .nil) uc sb (.inl rfl) ⟨by exact ho, uc⟩
theorem m9Mul_ct {r k c b : Nat} {va vb : Value} {A B : Nat → Nat → Rat} (ha : Vm (Wq b) r k U va A) (hv : Vm (Wq b) k c U vb B) (hb1 : 1 ≤ b) (hB : 1 + k * (2 * b + 1) ≤ 10000000000) (hbb : b ≤ 10000000000) (hr : r ≤ 1000) (hk : k ≤ 1000) (hc : c ≤ 1000) :
    Ct Tryz.prog 41 [va, vb] G U M fun v U' D => Vm Vq r c U' v (La.mm k A B) ∧ D = [] := by
  have h1 : r * k ≤ 1000 * 1000 := Nat.mul_le_mul hr hk
  have h2 : k * c ≤ 1000 * 1000 := Nat.mul_le_mul hk hc
  have h3 : r * c ≤ 1000 * 1000 := Nat.mul_le_mul hr hc
  have sA : ∀ i j, i < r → j < k → Szq (A i j) b := fun i j hi hj => ha.sz hb1 hi hj
  have sB : ∀ i j, i < k → j < c → Szq (B i j) b := fun i j hi hj => hv.sz hb1 hi hj
  have hv2 := hv
  have ha2 := ha
  obtain ⟨_, rfl, pm, cm, ms, rfl, -⟩ := hv
  obtain ⟨_, rfl, pa, ca, aas, rfl, -⟩ := ha
  refine ct_of_st Tryz.func41 rfl rfl rfl rfl ?_
  repeat (first | refine run_S ?_ | refine w_box (fun _ => ?_) | refine w_al (fun _ => ?_))
  rename_i b2 b3 b4
  refine sl_call rfl rfl rfl rfl rfl rfl (fun _ => ct_setg (m9Rows_co (kept_m kept_w _ _ _ _ uc ha2) hbb (by omega) (by omega) (by omega))) ?_
  rintro v1 U1 D hU ⟨⟨pr, cr, rs, rfl, -, rr, er⟩, rfl⟩
  rw [List.nil_append]
  try refine run_s ?_
  refine st_anti (M' := (b4, .var (.agg #[.int .i64 0, .int .i64 0, .slice none 0 0]), TM) :: (b3, .var (.agg #[.int .i64 (k : Int), .int .i64 (c : Int), .slice pm (k * c) cm]), TM) :: M) (ULe.refl _) sbk ?_
  refine st_loop (fun m E U' M' => ∃ (i : Nat) (P : Option Addr) (C : Nat) (vs : List Value) (D : MH), i ≤ r ∧ RowO TRs 1 D P i C vs ∧ El (Vr c) U' vs (La.mm k A B) ∧ E = [(6, .slice P i C), (7, .int .i64 (i : Int)), (5, .slice pr r cr), (3, .pointer (some ⟨b3, 0, none⟩)), (4, .pointer (some ⟨b4, 0, none⟩))] ∧ ULe U1 U' ∧
      M' = (b4, .var (.agg #[.int .i64 0, .int .i64 0, .slice none 0 0]), TM) :: (b3, .var (.agg #[.int .i64 (k : Int), .int .i64 (c : Int), .slice pm (k * c) cm]), TM) :: (D ++ M) ∧ m = r - i) (n0 := r)
    (E0 := [(6, .slice none 0 0), (7, .int .i64 ((0 : Nat) : Int)), (5, .slice pr r cr), (3, .pointer (some ⟨b3, 0, none⟩)), (4, .pointer (some ⟨b4, 0, none⟩))]) ⟨rfl, rfl, rfl, rfl, rfl, trivial⟩ ⟨0, none, 0, [], [], by omega, RowO.nil, El.nil, rfl, uc, rfl, rfl⟩ ?_
  rintro m E U2 M' ⟨i, P, C, vs, D, hi, hrow, hel, rfl, hU2, rfl, rfl⟩
  try refine run_s ?_
  refine st_dec rfl (fun h => ?_) (fun h => ?_)
  · have hir : i < r := by omega
    obtain ⟨v2, hv3⟩ := rr.at hir
    have e2 := er _ _ hv3
    obtain ⟨p2, c2, us, rfl, hc2, rw2, el2⟩ := id e2
    try refine run_s ?_
    refine st_drawM [6, 7, 8, 9] [0, 1, 2, 3, 4, 5, 6, 7, 8, 9] sym (by kernel_rfl) ?_
    try refine run_s ?_
    refine sl_y (yl_index sym rfl rfl rfl rfl rfl rfl ((rr.up uc sb).lt hv3) ((rr.up uc sb).get _ _ hv3).1) rfl rfl rfl rfl ?_; refine sl_y (yl_loadR1 sym rfl rfl rfl rfl (rr.up uc sb) hv3 rfl) rfl rfl rfl rfl ?_
    try refine run_s ?_
    refine sl_call rfl rfl rfl rfl rfl rfl (fun _ => (m9Apply_ct (b := b) (Ls.up (M' := _) (e2.toW fun j hj => sA i j hir hj) kept_w uc sb) (kept_m kept_w _ _ _ _ uc hv2) hb1 hB hbb (by omega) (by omega) (by omega)).setl kept_q) ?_
    rintro v U3 D2 hU ⟨⟨p, c', us, rfl, hc, hr', he⟩, rfl⟩
    rw [List.nil_append]
    repeat (first | refine run_S ?_ | refine w_box (fun _ => ?_) | refine w_al (fun _ => ?_))
    refine w_push hrow (perm2 (D := _)).symm (fun bhr2 phr2 chr2 Dhr2 hr2 => ?_)
    refine sl_perm ?_ (perm2 (D := Dhr2))
    repeat (first | refine run_S ?_ | refine w_box (fun _ => ?_) | refine w_al (fun _ => ?_))
    exact sk_again (E' := [(6, .slice phr2 (i + 1) chr2), (7, .int .i64 ((i : Int) + 1)), (5, .slice pr r cr), (3, .pointer (some ⟨b3, 0, none⟩)), (4, .pointer (some ⟨b4, 0, none⟩))]) (m := r - (i + 1)) ⟨rfl, rfl, rfl, rfl, rfl, trivial⟩ (by omega)
      ⟨i + 1, phr2, chr2, _, Dhr2, by omega, hr2, snoc_ok hrow.len.1 (hel.up kept_r uc) ⟨p, c', us, rfl, hc, hr', he⟩, rfl, uc, rfl, rfl⟩
  · have e : i = r := by omega
    subst e
    repeat (first | refine run_S ?_ | refine w_box (fun _ => ?_) | refine w_al (fun _ => ?_))
    refine sl_call rfl rfl rfl rfl rfl rfl (fun _ => ct_setm (m9Of_ct (b := 1 + k * (2 * b + 1)) (Ls.toWr ((Lo.at ⟨P, C, vs, rfl, hrow, hel⟩ sb).up kept_r uc sb) (fun a d ha hd => szq_mm (fun z hz => sA a z ha hz) (fun z hz => sB z d hz hd))) hB (by omega) (by omega) (by omega))) ?_
    rintro vh4 Uh4 D hU ⟨h4, rfl⟩
    rw [List.nil_append]
    repeat (first | refine run_S ?_ | refine w_box (fun _ => ?_) | refine w_al (fun _ => ?_))
    obtain ⟨_, rfl, pa, ca, va, rfl, h5⟩ := h4
    repeat (first | refine run_S ?_ | refine w_box (fun _ => ?_) | refine w_al (fun _ => ?_))
    exact sk_ret [] sym rfl (.cons (.cell 0 rfl rfl rfl) .nil) uc sb (.inl rfl) ⟨⟨_, rfl, pa, ca, va, rfl, h5⟩, rfl⟩
end Go.Proofs.YtpigpikhjlmdoaaGreat
