/- Texts of this seat's own, merged: each begins with its own remark. -/
import Derived.Test.YtocjmbilepbokaaGreatM19
import Derived.Test.YtocjmbilepbokaaGreatM15
/- Walks of the reference of layer 9: rows of zeros, unit rows, sums of rows. -/
namespace Go.Proofs.YtocjmbilepbokaaGreat
open Go.Hp
variable {G : World} {U : UH} {M : MH}

theorem m9Zeros_ct {n : Nat} (hn : n ≤ 1000000000) :
    Ct Tryz.prog 26 [.int .i64 (n : Int)] G U M fun v U' D => Lo Vq TR 4 n U' D v (fun _ => (0 : Rat)) ∧ ULe U U' := by
  refine ct_of_st Tryz.func26 rfl rfl rfl rfl ?_
  repeat (first | refine run_S ?_ | refine w_box (fun _ => ?_) | refine w_al (fun _ => ?_))
  refine st_loop (fun m E U' M' => ∃ (i : Nat) (p : Option Addr) (c : Nat) (vs : List Value) (D : MH), i ≤ n ∧ RowO TR 4 D p i c vs ∧ El Vq U' vs (fun _ => (0 : Rat)) ∧ E = [(3, .slice p i c), (4, .int .i64 (i : Int)), (0, .int .i64 (n : Int))] ∧ ULe U U' ∧ M' = D ++ M ∧ m = n - i) (n0 := n)
    (E0 := [(3, .slice none 0 0), (4, .int .i64 ((0 : Nat) : Int)), (0, .int .i64 (n : Int))]) ⟨rfl, rfl, rfl, trivial⟩ ⟨0, none, 0, [], [], by omega, RowO.nil, El.nil, rfl, uc, rfl, rfl⟩ ?_
  rintro m E U' M' ⟨i, p, c, vs, D, hi, hrow, hel, rfl, hU, rfl, rfl⟩
  try refine run_s ?_
  refine st_dec rfl (fun h => ?_) (fun h => ?_)
  · try refine run_s ?_
    refine sl_call rfl rfl rfl rfl rfl rfl (fun _ => rqOf_ct (z := 0) (by decide) (by decide)) ?_
    rintro v Uh1 D hU ⟨xh1, rfl, h1, rfl⟩
    repeat (first | refine run_S ?_ | refine w_box (fun _ => ?_) | refine w_al (fun _ => ?_))
    refine w_push hrow (List.Perm.refl _) (fun bhr2 phr2 chr2 Dhr2 hr2 => ?_)
    repeat (first | refine run_S ?_ | refine w_box (fun _ => ?_) | refine w_al (fun _ => ?_))
    exact sk_again (E' := [(3, .slice phr2 (i + 1) chr2), (4, .int .i64 ((i : Int) + 1)), (0, .int .i64 (n : Int))]) (m := n - (i + 1)) ⟨rfl, rfl, rfl, trivial⟩ (by omega)
      ⟨i + 1, phr2, chr2, _, Dhr2, by omega, hr2, snoc_ok hrow.len.1 (hel.up kept_q uc) ⟨xh1, rfl, h1⟩, rfl, uc, rfl, rfl⟩
  · try refine run_s ?_
    have e : i = n := by omega
    subst e
    exact sk_ret D sym rfl (.cons (.tmp rfl) .nil) uc sb (.inl rfl) ⟨⟨p, c, vs, rfl, hrow, hel⟩, uc⟩

/-- x + c * y. -/
theorem m9Combine_ct {n b : Nat} {vx vy : Value} {xc : QV} {f g : Nat → Rat} {q : Rat} (hx : Ls (Wq b) 4 n U M vx f) (hc : xc.rep U M q) (hcn : xc.le b) (hy : Ls (Wq b) 4 n U M vy g) (hb1 : 1 ≤ b) (hb : b ≤ 10000000000) (hn : n ≤ 1000000000) :
    Ct Tryz.prog 25 [vx, xc.v, vy] G U M fun v U' D => Lo Vq TR 4 n U' D v (fun j => f j + q * g j) ∧ ULe U U' := by
  obtain ⟨px, cx, xs, rfl, -, rx, ex⟩ := hx
  obtain ⟨py, cy, ys, rfl, -, ry, ey⟩ := hy
  have sc := hc.sz hcn hb1
  refine ct_of_st Tryz.func25 rfl rfl rfl rfl ?_
  repeat (first | refine run_S ?_ | refine w_box (fun _ => ?_) | refine w_al (fun _ => ?_))
  rename_i b4
  refine sl_call rfl rfl rfl rfl rfl rfl (fun _ => rqSign_ct (hc.up uc sb) (by omega)) ?_
  rintro v U' D hU ⟨rfl, rfl, rfl⟩
  repeat (first | refine run_S ?_ | refine w_box (fun _ => ?_) | refine w_al (fun _ => ?_))
  refine st_loop (fun m E U' M' => ∃ (i : Nat) (p : Option Addr) (c : Nat) (vs : List Value) (D : MH), i ≤ n ∧ RowO TR 4 D p i c vs ∧ El Vq U' vs (fun j => f j + q * g j) ∧ E = [(7, .slice p i c), (9, .int .i64 (i : Int)), (8, .bool (dec (q.num.sign = 0))), (0, .slice px n cx), (2, .slice py n cy), (4, .pointer (some ⟨b4, 0, none⟩))] ∧ ULe U U' ∧ M' = (b4, .var xc.v, TR) :: (D ++ M) ∧ m = n - i) (n0 := n)
    (E0 := [(7, .slice none 0 0), (9, .int .i64 ((0 : Nat) : Int)), (8, .bool (dec (q.num.sign = 0))), (0, .slice px n cx), (2, .slice py n cy), (4, .pointer (some ⟨b4, 0, none⟩))]) ⟨rfl, rfl, rfl, rfl, rfl, rfl, trivial⟩ ⟨0, none, 0, [], [], by omega, RowO.nil, El.nil, rfl, uc, rfl, rfl⟩ ?_
  rintro m E U' M' ⟨i, p, c, vs, D, hi, hrow, hel, rfl, hU, rfl, rfl⟩
  try refine run_s ?_
  refine st_dec rfl (fun h => ?_) (fun h => ?_)
  · obtain ⟨v1, hv1⟩ := rx.at (k := i) (by omega)
    obtain ⟨x1, rfl, hx1, hn1⟩ := ex _ _ hv1
    obtain ⟨v2, hv2⟩ := ry.at (k := i) (by omega)
    obtain ⟨x2, rfl, hx2, hn2⟩ := ey _ _ hv2
    have rx' := rx.up (U' := U') (M' := (b4, .var xc.v, TR) :: (D ++ M)) hU sb
    have ry' := ry.up (U' := U') (M' := (b4, .var xc.v, TR) :: (D ++ M)) hU sb
    try refine run_s ?_
    refine sl_gdec rfl rfl (fun hq => ?_) (fun hq => ?_)
    · try refine run_s ?_
      refine sl_y (yl_index sym rfl rfl rfl rfl rfl rfl (rx'.lt hv1) (rx'.get _ _ hv1).1) rfl rfl rfl rfl ?_; refine sl_y (yl_loadRs sym rfl rfl rfl rfl rfl rx' hv1) rfl rfl rfl rfl ?_
      refine sl_call rfl rfl rfl rfl rfl rfl (fun _ => rqNormal_ct (hx1.up uc sb) (by omega)) ?_
      rintro v Uh1 D hU ⟨xh1, rfl, h1, rfl⟩
      repeat (first | refine run_S ?_ | refine w_box (fun _ => ?_) | refine w_al (fun _ => ?_))
      refine w_push hrow (perm1 (D := _)).symm (fun bhr2 phr2 chr2 Dhr2 hr2 => ?_)
      refine sl_perm ?_ (perm1 (D := Dhr2))
      repeat (first | refine run_S ?_ | refine w_box (fun _ => ?_) | refine w_al (fun _ => ?_))
      refine sk_again (E' := [(7, .slice phr2 (i + 1) chr2), (9, .int .i64 ((i : Int) + 1)), (8, .bool (dec (q.num.sign = 0))), (0, .slice px n cx), (2, .slice py n cy), (4, .pointer (some ⟨b4, 0, none⟩))]) (m := n - (i + 1)) ⟨rfl, rfl, by rw [dec_true hq]; rfl, rfl, rfl, rfl, trivial⟩ (by omega)
        ⟨i + 1, phr2, chr2, _, Dhr2, by omega, hr2, snoc_ok hrow.len.1 (hel.up kept_q uc) ⟨xh1, rfl, ?_⟩, rfl, uc, rfl, rfl⟩
      rw [rat_num_zero.1 (Int.sign_eq_zero_iff_zero.1 hq), Rat.zero_mul, Rat.add_zero]; exact h1
    · try refine run_s ?_
      refine sl_y (yl_index sym rfl rfl rfl rfl rfl rfl (ry'.lt hv2) (ry'.get _ _ hv2).1) rfl rfl rfl rfl ?_; refine sl_y (yl_loadRs sym rfl rfl rfl rfl rfl ry' hv2) rfl rfl rfl rfl ?_
      refine sl_call rfl rfl rfl rfl rfl rfl (fun _ => rqSign_ct (hx2.up uc sb) (by omega)) ?_
      rintro v U' D hU ⟨rfl, rfl, rfl⟩
      repeat (first | refine run_S ?_ | refine w_box (fun _ => ?_) | refine w_al (fun _ => ?_))
      refine st_eq rfl (fun hg => ?_) (fun hg => ?_)
      · try refine run_s ?_
        refine sl_y (yl_index sym rfl rfl rfl rfl rfl rfl (rx'.lt hv1) (rx'.get _ _ hv1).1) rfl rfl rfl rfl ?_; refine sl_y (yl_loadRs sym rfl rfl rfl rfl rfl rx' hv1) rfl rfl rfl rfl ?_
        refine sl_call rfl rfl rfl rfl rfl rfl (fun _ => rqNormal_ct (hx1.up uc sb) (by omega)) ?_
        rintro v Uh1 D hU ⟨xh1, rfl, h1, rfl⟩
        repeat (first | refine run_S ?_ | refine w_box (fun _ => ?_) | refine w_al (fun _ => ?_))
        refine w_push hrow (perm1 (D := _)).symm (fun bhr2 phr2 chr2 Dhr2 hr2 => ?_)
        refine sl_perm ?_ (perm1 (D := Dhr2))
        repeat (first | refine run_S ?_ | refine w_box (fun _ => ?_) | refine w_al (fun _ => ?_))
        refine sk_again (E' := [(7, .slice phr2 (i + 1) chr2), (9, .int .i64 ((i : Int) + 1)), (8, .bool (dec (q.num.sign = 0))), (0, .slice px n cx), (2, .slice py n cy), (4, .pointer (some ⟨b4, 0, none⟩))]) (m := n - (i + 1)) ⟨rfl, rfl, by rw [dec_false hq]; rfl, rfl, rfl, rfl, trivial⟩ (by omega)
          ⟨i + 1, phr2, chr2, _, Dhr2, by omega, hr2, snoc_ok hrow.len.1 (hel.up kept_q uc) ⟨xh1, rfl, ?_⟩, rfl, uc, rfl, rfl⟩
        rw [rat_num_zero.1 (Int.sign_eq_zero_iff_zero.1 hg), Rat.mul_zero, Rat.add_zero]; exact h1
      · try refine run_s ?_
        refine st_drawM [11, 12, 13, 14] [0, 1, 2, 3, 4, 5, 6, 7, 8, 9, 10, 11, 12, 13, 14] sym (by kernel_rfl) ?_
        try refine run_s ?_
        refine sl_y (yl_index sym rfl rfl rfl rfl rfl rfl (rx'.lt hv1) (rx'.get _ _ hv1).1) rfl rfl rfl rfl ?_; refine sl_y (yl_loadRs sym rfl rfl rfl rfl rfl rx' hv1) rfl rfl rfl rfl ?_
        try refine run_s ?_
        refine sl_y (yl_index sym rfl rfl rfl rfl rfl rfl (ry'.lt hv2) (ry'.get _ _ hv2).1) rfl rfl rfl rfl ?_; refine sl_y (yl_loadRs sym rfl rfl rfl rfl rfl ry' hv2) rfl rfl rfl rfl ?_
        refine sl_call rfl rfl rfl rfl rfl rfl (fun _ => rqMul_ct (hc.up uc sb) (by omega) (hx2.up uc sb) (by omega)) ?_
        rintro v Uh1 D hU ⟨xh1, rfl, h1, rfl⟩
        repeat (first | refine run_S ?_ | refine w_box (fun _ => ?_) | refine w_al (fun _ => ?_))
        refine sl_call rfl rfl rfl rfl rfl rfl (fun _ => rqAdd_ct (hx1.up uc sb) (by omega) (h1.rep.up uc sb) (h1.le (sc.mul (hx2.sz hn2 hb1)) (by omega))) ?_
        rintro v Uh2 D hU ⟨xh2, rfl, h2, rfl⟩
        repeat (first | refine run_S ?_ | refine w_box (fun _ => ?_) | refine w_al (fun _ => ?_))
        refine w_push hrow (perm1 (D := _)).symm (fun bhr2 phr2 chr2 Dhr2 hr2 => ?_)
        refine sl_perm ?_ (perm1 (D := Dhr2))
        repeat (first | refine run_S ?_ | refine w_box (fun _ => ?_) | refine w_al (fun _ => ?_))
        exact sk_again (E' := [(7, .slice phr2 (i + 1) chr2), (9, .int .i64 ((i : Int) + 1)), (8, .bool (dec (q.num.sign = 0))), (0, .slice px n cx), (2, .slice py n cy), (4, .pointer (some ⟨b4, 0, none⟩))]) (m := n - (i + 1)) ⟨rfl, rfl, by rw [dec_false hq]; rfl, rfl, rfl, rfl, trivial⟩ (by omega)
          ⟨i + 1, phr2, chr2, _, Dhr2, by omega, hr2, snoc_ok hrow.len.1 (hel.up kept_q uc) ⟨xh2, rfl, h2⟩, rfl, uc, rfl, rfl⟩
  · try refine run_s ?_
    have e : i = n := by omega
    subst e
    exact sk_ret D sym rfl (.cons (.tmp rfl) .nil) uc sb (.inl rfl) ⟨⟨p, c, vs, rfl, hrow, hel⟩, uc⟩

end Go.Proofs.YtocjmbilepbokaaGreat

/- Walks of the reference of layer 9: elements, rows and matrices. -/
namespace Go.Proofs.YtocjmbilepbokaaGreat
open Go.Hp
variable {G : World} {U : UH} {M : MH}

theorem m9Rows_co {r c b : Nat} {vm : Value} {A : Nat → Nat → Rat} (hm : Vm (Wq b) r c U vm A) (hb : b ≤ 10000000000) (hr : r ≤ 1000000) (hrc : r * c ≤ 100000000) (hc : c ≤ 100000000) :
    Ct Tryz.prog 70 [vm] G U M fun v U' D => Go rO r c U' D v A ∧ ULe U U' := by
  obtain ⟨_, rfl, p, cc, vs, rfl, -, rw1, el⟩ := hm
  refine ct_of_st Tryz.func70 rfl rfl rfl rfl ?_
  repeat (first | refine run_S ?_ | refine w_box (fun _ => ?_) | refine w_al (fun _ => ?_))
  rename_i b1
  refine st_loop (fun m E U' M' => ∃ (i : Nat) (P : Option Addr) (C : Nat) (svs : List Value) (D : MH) (F : List MH), i ≤ r ∧ RowO TRs 1 D P i C svs ∧ Gs rO c U' svs F A ∧ E = [(3, .slice P i C), (4, .int .i64 (i : Int)), (1, .pointer (some ⟨b1, 0, none⟩))] ∧ ULe U U' ∧
      M' = (b1, .var (.agg #[.int .i64 (r : Int), .int .i64 (c : Int), .slice p (r * c) cc]), TM) :: (D ++ (F.flatten ++ M)) ∧ m = r - i) (n0 := r)
    (E0 := [(3, .slice none 0 0), (4, .int .i64 ((0 : Nat) : Int)), (1, .pointer (some ⟨b1, 0, none⟩))]) ⟨rfl, rfl, rfl, trivial⟩ ⟨0, none, 0, [], [], [], by omega, RowO.nil, Gs.nil, rfl, uc, rfl, rfl⟩ ?_
  rintro m E U1 M' ⟨i, P, C, svs, Do, F, hi, hrow, hg, rfl, hU1, rfl, rfl⟩
  try refine run_s ?_
  refine st_dec rfl (fun h => ?_) (fun h => ?_)
  · have hir : i < r := by omega
    try refine run_s ?_
    refine st_loop (fun m E U' M' => ∃ (j : Nat) (q : Option Addr) (c' : Nat) (us : List Value) (D : MH), j ≤ c ∧ RowO TR 4 D q j c' us ∧ El Vq U' us (A i) ∧ E = [(5, .slice q j c'), (6, .int .i64 (j : Int)), (3, .slice P i C), (4, .int .i64 (i : Int)), (1, .pointer (some ⟨b1, 0, none⟩))] ∧ ULe U1 U' ∧
        M' = (b1, .var (.agg #[.int .i64 (r : Int), .int .i64 (c : Int), .slice p (r * c) cc]), TM) :: (D ++ (Do ++ (F.flatten ++ M))) ∧ m = c - j) (n0 := c)
      (E0 := [(5, .slice none 0 0), (6, .int .i64 ((0 : Nat) : Int)), (3, .slice P i C), (4, .int .i64 (i : Int)), (1, .pointer (some ⟨b1, 0, none⟩))]) ⟨rfl, rfl, rfl, rfl, rfl, trivial⟩ ⟨0, none, 0, [], [], by omega, RowO.nil, El.nil, rfl, uc, rfl, rfl⟩ ?_
    rintro m E U2 M' ⟨j, q, c', us, Dr, hj, hrow2, hel, rfl, hU2, rfl, rfl⟩
    try refine run_s ?_
    refine st_dec rfl (fun h2 => ?_) (fun h2 => ?_)
    · have hjc : j < c := by omega
      have hlt := ij_lt hir hjc
      obtain ⟨v1, hv1⟩ := rw1.at hlt
      obtain ⟨x1, rfl, hx1, hn1⟩ := el _ _ hv1
      rw [fl_at hjc] at hx1
      try refine run_s ?_
      refine sl_y (yl_index sym rfl rfl rfl rfl rfl ( by omega) ((rw1.up uc sb).lt hv1) ((rw1.up uc sb).get _ _ hv1).1) rfl rfl rfl rfl ?_; refine sl_y (yl_loadRs sym rfl rfl rfl rfl rfl (rw1.up uc sb) hv1) rfl rfl rfl rfl ?_
      refine sl_call rfl rfl rfl rfl rfl rfl (fun _ => rqNormal_ct (hx1.up uc sb) (by omega)) ?_
      rintro v Uh1 D hU ⟨xh1, rfl, h1, rfl⟩
      repeat (first | refine run_S ?_ | refine w_box (fun _ => ?_) | refine w_al (fun _ => ?_))
      refine w_push hrow2 (perm1 (D := _)).symm (fun bhr2 phr2 chr2 Dhr2 hr2 => ?_)
      refine sl_perm ?_ (perm1 (D := Dhr2))
      repeat (first | refine run_S ?_ | refine w_box (fun _ => ?_) | refine w_al (fun _ => ?_))
      exact sk_again (E' := [(5, .slice phr2 (j + 1) chr2), (6, .int .i64 ((j : Int) + 1)), (3, .slice P i C), (4, .int .i64 (i : Int)), (1, .pointer (some ⟨b1, 0, none⟩))]) (m := c - (j + 1)) ⟨rfl, rfl, rfl, rfl, rfl, trivial⟩ (by omega)
        ⟨j + 1, phr2, chr2, _, Dhr2, by omega, hr2, snoc_ok hrow2.len.1 (hel.up kept_q uc) ⟨xh1, rfl, h1⟩, rfl, uc, rfl, rfl⟩
    · have e : j = c := by omega
      subst e
      try refine run_s ?_
      refine w_push (X := (b1, .var (.agg #[.int .i64 (r : Int), .int .i64 (j : Int), .slice p (r * j) cc]), TM) :: (Dr ++ (F.flatten ++ M))) hrow ((swp1 (A := Dr) (B := Do)).trans perm1.symm) (fun b2 P2 C2 D2 hr2 => ?_)
      refine sl_perm ?_ perm1
      try refine run_s ?_
      refine sk_perm (M' := (b1, .var (.agg #[.int .i64 (r : Int), .int .i64 (j : Int), .slice p (r * j) cc]), TM) :: (D2 ++ ((F ++ [Dr]).flatten ++ M))) ?_ ?_
      · rw [List.flatten_append, List.flatten_singleton, List.append_assoc]
        exact (List.perm_append_comm_assoc ..).append_left D2 |>.cons _
      · exact sk_again (E' := [(3, .slice P2 (i + 1) C2), (4, .int .i64 ((i : Int) + 1)), (1, .pointer (some ⟨b1, 0, none⟩))]) (m := r - (i + 1)) ⟨rfl, rfl, rfl, trivial⟩ (by omega)
          ⟨i + 1, P2, C2, _, D2, F ++ [Dr], by omega, hr2, (hg.up uc).snoc hrow.len.1 hrow2.len.2.1 hrow2 hel, rfl, uc, rfl, rfl⟩
  · try refine run_s ?_
    have e : i = r := by omega
    subst e
    exact sk_ret (Do ++ F.flatten) sym rfl (.cons (.tmp rfl) .nil) uc sb (.inl rfl) ⟨⟨Do, F, P, C, svs, rfl, rfl, hrow, hg⟩, uc⟩

end Go.Proofs.YtocjmbilepbokaaGreat

/- Walks of the reference of layer 9: matrices of rows, products, sums, transposes. -/
namespace Go.Proofs.YtocjmbilepbokaaGreat
open Go.Hp
variable {G : World} {U : UH} {M : MH}

theorem m9Of_ct {r c b : Nat} {vr : Value} {A : Nat → Nat → Rat} (hm : Ls (Wr b c) 1 r U M vr A) (hb : b ≤ 10000000000) (hr : r ≤ 1000000) (hrc : r * c ≤ 100000000) (hc : c ≤ 100000000) :
    Ct Tryz.prog 69 [.int .i64 (c : Int), vr] G U M fun v U' D => Vmo r c U' D v A ∧ ULe U U' := by
  obtain ⟨p, cc, rs, rfl, -, rw1, el⟩ := hm
  refine ct_of_st Tryz.func69 rfl rfl rfl rfl ?_
  repeat (first | refine run_S ?_ | refine w_box (fun _ => ?_) | refine w_al (fun _ => ?_))
  rename_i b4 b5
  refine st_loop (fun m E U' M' => ∃ (i : Nat) (P : Option Addr) (C : Nat) (vs : List Value) (D : MH), i ≤ r ∧ RowO TR 4 D P (i * c) C vs ∧ El Vq U' vs (fl c A) ∧ E = [(6, .int .i64 (i : Int)), (0, .int .i64 (c : Int)), (1, .slice p r cc), (4, .pointer (some ⟨b4, 0, none⟩)), (5, .pointer (some ⟨b5, 0, none⟩))] ∧ ULe U U' ∧
      M' = (b5, .var (.agg #[.int .i64 (r : Int), .int .i64 (c : Int), .slice P (i * c) C]), TM) :: (b4, .var (.agg #[.int .i64 0, .int .i64 0, .slice none 0 0]), TM) :: (D ++ M) ∧ m = r - i) (n0 := r)
    (E0 := [(6, .int .i64 ((0 : Nat) : Int)), (0, .int .i64 (c : Int)), (1, .slice p r cc), (4, .pointer (some ⟨b4, 0, none⟩)), (5, .pointer (some ⟨b5, 0, none⟩))]) ⟨rfl, rfl, rfl, rfl, rfl, trivial⟩ ⟨0, none, 0, [], [], by omega, by rw [Nat.zero_mul]; exact RowO.nil, El.nil, rfl, uc, by rw [Nat.zero_mul]; rfl, rfl⟩ ?_
  rintro m E U1 M' ⟨i, P, C, vs, D, hi, hrow, hel, rfl, hU1, rfl, rfl⟩
  try refine run_s ?_
  refine st_dec rfl (fun h => ?_) (fun h => ?_)
  · have hir : i < r := by omega
    obtain ⟨v1, hv1⟩ := rw1.at hir
    obtain ⟨p2, c2, us, rfl, -, rw2, el2⟩ := el _ _ hv1
    try refine run_s ?_
    refine st_loop (fun m E U' M' => ∃ (j : Nat) (P : Option Addr) (C : Nat) (vs : List Value) (D : MH), j ≤ c ∧ RowO TR 4 D P (i * c + j) C vs ∧ El Vq U' vs (fl c A) ∧ E = [(7, .int .i64 (j : Int)), (6, .int .i64 (i : Int)), (0, .int .i64 (c : Int)), (1, .slice p r cc), (4, .pointer (some ⟨b4, 0, none⟩)), (5, .pointer (some ⟨b5, 0, none⟩))] ∧ ULe U U' ∧
        M' = (b5, .var (.agg #[.int .i64 (r : Int), .int .i64 (c : Int), .slice P (i * c + j) C]), TM) :: (b4, .var (.agg #[.int .i64 0, .int .i64 0, .slice none 0 0]), TM) :: (D ++ M) ∧ m = c - j) (n0 := c)
      (E0 := [(7, .int .i64 ((0 : Nat) : Int)), (6, .int .i64 (i : Int)), (0, .int .i64 (c : Int)), (1, .slice p r cc), (4, .pointer (some ⟨b4, 0, none⟩)), (5, .pointer (some ⟨b5, 0, none⟩))]) ⟨rfl, rfl, rfl, rfl, rfl, rfl, trivial⟩ ⟨0, P, C, vs, D, by omega, hrow, hel, rfl, uc, rfl, rfl⟩ ?_
    rintro m E U2 M' ⟨j, P, C, vs, D, hj, hrow, hel, rfl, hU2, rfl, rfl⟩
    try refine run_s ?_
    refine st_dec rfl (fun h2 => ?_) (fun h2 => ?_)
    · have hjc : j < c := by omega
      have hlt := ij_lt hir hjc
      obtain ⟨v2, hv2⟩ := rw2.at hjc
      obtain ⟨x1, rfl, hx1, hn1⟩ := el2 _ _ hv2
      try refine run_s ?_
      refine st_drawM [11, 12, 13] [0, 1, 2, 3, 4, 5, 6, 7, 8, 9, 10, 11, 12, 13] sym (by kernel_rfl) ?_
      try refine run_s ?_
      refine sl_y (yl_index sym rfl rfl rfl rfl rfl rfl ((rw1.up uc sb).lt hv1) ((rw1.up uc sb).get _ _ hv1).1) rfl rfl rfl rfl ?_; refine sl_y (yl_loadR1 sym rfl rfl rfl rfl (rw1.up uc sb) hv1 rfl) rfl rfl rfl rfl ?_
      try refine run_s ?_
      refine sl_y (yl_index sym rfl rfl rfl rfl rfl rfl ((rw2.up uc sb).lt hv2) ((rw2.up uc sb).get _ _ hv2).1) rfl rfl rfl rfl ?_; refine sl_y (yl_loadRs sym rfl rfl rfl rfl rfl (rw2.up uc sb) hv2) rfl rfl rfl rfl ?_
      refine sl_call rfl rfl rfl rfl rfl rfl (fun _ => rqNormal_ct (hx1.up uc sb) (by omega)) ?_
      rintro v Uh1 D hU ⟨xh1, rfl, h1, rfl⟩
      repeat (first | refine run_S ?_ | refine w_box (fun _ => ?_) | refine w_al (fun _ => ?_))
      refine w_push hrow (perm2 (D := _)).symm (fun bhr2 phr2 chr2 Dhr2 hr2 => ?_)
      refine sl_perm ?_ (perm2 (D := Dhr2))
      repeat (first | refine run_S ?_ | refine w_box (fun _ => ?_) | refine w_al (fun _ => ?_))
      refine sl_storeF 0 sym rfl rfl rfl rfl rfl rfl rfl rfl rfl rfl rfl ?_
      try refine run_s ?_
      exact sk_again (E' := [(7, .int .i64 ((j : Int) + 1)), (6, .int .i64 (i : Int)), (0, .int .i64 (c : Int)), (1, .slice p r cc), (4, .pointer (some ⟨b4, 0, none⟩)), (5, .pointer (some ⟨b5, 0, none⟩))]) (m := c - (j + 1)) ⟨rfl, rfl, rfl, rfl, rfl, rfl, trivial⟩ (by omega)
        ⟨j + 1, phr2, chr2, _, Dhr2, by omega, hr2, snoc_ok hrow.len.1 (hel.up kept_q uc) ⟨xh1, rfl, by rw [fl_at hjc]; exact h1⟩, rfl, uc, rfl, rfl⟩
    · have e : j = c := by omega
      subst e
      have e2 : i * j + j = (i + 1) * j := by rw [Nat.add_mul, Nat.one_mul]
      rw [e2] at hrow ⊢
      try refine run_s ?_
      exact sk_again (E' := [(6, .int .i64 ((i : Int) + 1)), (0, .int .i64 (j : Int)), (1, .slice p r cc), (4, .pointer (some ⟨b4, 0, none⟩)), (5, .pointer (some ⟨b5, 0, none⟩))]) (m := r - (i + 1)) ⟨rfl, rfl, rfl, rfl, rfl, trivial⟩ (by omega)
        ⟨i + 1, P, C, vs, D, by omega, hrow, hel, rfl, uc, rfl, rfl⟩
  · have e : i = r := by omega
    subst e
    repeat (first | refine run_S ?_ | refine w_box (fun _ => ?_) | refine w_al (fun _ => ?_))
    exact sk_ret D sym rfl (.cons (.cell 1 rfl rfl rfl) .nil) uc sb (.inl rfl) ⟨⟨_, rfl, P, C, vs, rfl, hrow, hel⟩, uc⟩

end Go.Proofs.YtocjmbilepbokaaGreat

/- Walks of the reference of layer 9: products, sums, transposes, traces. -/
namespace Go.Proofs.YtocjmbilepbokaaGreat
open Go.Hp
variable {G : World} {U : UH} {M : MH}

end Go.Proofs.YtocjmbilepbokaaGreat
