/- Walks of matrix: Solve. -/
import Derived.Test.YtcfgogamamdipaaB107
import Derived.Test.YtcfgogamamdipaaLg
namespace Go.Proofs.Ytcfgogamamdipaa
open Go.Hp
variable {G : World} {U U' : UH} {M M' : MH}

theorem mSolve_co {m n b bv : Nat} {vm vb : Value} {T : Nat → Nat → Rat} {f : Nat → Rat} (hm : Vm (Wq b) m n U vm T) (hv : Ls (Wq bv) 4 n U [] vb f) (hb1 : 1 ≤ b) (hbv : 1 ≤ bv) (hbv2 : bv ≤ 1000000000) (hg1 : 1 + m * La.gro b m ≤ 1000000000) (hg2 : 1 + m * La.gro (La.gro b m) m ≤ 1000000000) (hg3 : La.gro (La.gro b m) m ≤ 1000000000)
    (hd1 : La.dbl (La.gro b m) bv m ≤ 1000000000) (hd2 : La.dbl (La.gro (La.gro b m) m) (La.dbl (La.gro b m) bv m) m ≤ 9000000000) (hm1 : m ≤ 1000) (hn1 : n ≤ 1000) :
    Ct Try.prog 28 [vm, vb] G U M fun v U' D => ((∀ y, ¬ La.Sol m n T f y) → v = .tuple #[.slice none 0 0, .int .i64 11] ∧ D = []) ∧ ((∃ y, La.Sol m n T f y) → ∃ (X : Nat → Rat) (px : Option Addr) (cx : Nat) (xs : List Value), v = .tuple #[.slice px m cx, .int .i64 0] ∧ m ≤ cx ∧ RowW TR 4 D px m xs ∧ El Vq U' xs X ∧ La.SolOf m n T f X ∧
      ∀ i, i < m → Szq (X i) (La.dbl (La.gro (La.gro b m) m) (La.dbl (La.gro b m) bv m) m)) ∧ ULe U U' := by
  have hgW : La.gro b m ≤ 1000000000 := Nat.le_trans (La.gro_le (k := La.gro b m) (Nat.zero_le m)) hg3
  have hb : b ≤ 1000000000 := Nat.le_trans (La.gro_le (k := b) (Nat.zero_le m)) hgW
  obtain ⟨hmn, hmn2⟩ := maug_step hm1 hn1 hb
  have sT : ∀ i j, i < m → j < n → Szq (T i j) b := fun i j hi hj => hm.sz hb1 hi hj
  have sf : ∀ j, j < n → Szq (f j) bv := fun j hj => hv.sz hbv hj
  have hm2 := hm
  have hv2 := hv
  obtain ⟨_, rfl, pa, cm, ms, rfl, -⟩ := hm
  obtain ⟨pb, cb, bs, rfl, hcb, rb, eb⟩ := hv
  refine ct_of_st Try.func28 rfl rfl rfl rfl ?_
  repeat (first | refine run_S ?_ | refine w_box (fun _ => ?_) | refine w_al (fun _ => ?_))
  rename_i b2
  refine sl_call rfl rfl rfl rfl rfl rfl (fun _ => mValid_ct (r := (m : Int)) (c := (n : Int)) (n := m * n) (p := pa) (cc := cm) (by omega)) ?_
  rintro v U' D hU ⟨rfl, rfl, rfl⟩
  repeat (first | refine run_S ?_ | refine w_box (fun _ => ?_) | refine w_al (fun _ => ?_))
  rw [decide_eq_true (vld_of (by omega) (by omega))]
  repeat (first | refine run_S ?_ | refine w_box (fun _ => ?_) | refine w_al (fun _ => ?_))
  refine st_ne rfl (fun h => absurd rfl h) (fun _ => ?_)
  repeat (first | refine run_S ?_ | refine w_box (fun _ => ?_) | refine w_al (fun _ => ?_))
  refine st_draw [0, 2, 3, 1, 4, 5, 6] sym (by kernel_rfl) ?_
  try refine run_s ?_
  refine sl_call rfl rfl rfl rfl rfl rfl (fun _ => mload_co (kept_m kept_w _ _ _ _ uc hm2) (by omega) (by omega) (by omega) (by omega)) ?_
  rintro v1 U1 D1 hU1 ⟨hgl, -⟩
  try refine run_s ?_
  refine sl_call rfl rfl rfl rfl rfl rfl (fun _ => munit_co (n := m) (by omega)) ?_
  rintro v2 U2 D2 hU2 ⟨hgu, -⟩
  try refine run_s ?_
  have hga : Lg m n U2 (D2 ++ (D1 ++ ((b2, .var (.agg #[.int .i64 (m : Int), .int .i64 (n : Int), .slice pa (m * n) cm]), TM) :: M))) v1 T := (hgl.w.lg (M := D2 ++ (D1 ++ ((b2, .var (.agg #[.int .i64 (m : Int), .int .i64 (n : Int), .slice pa (m * n) cm]), TM) :: M))) sb).up uc (List.Sublist.refl _)
  have hgb : Lg m m U2 (D2 ++ (D1 ++ ((b2, .var (.agg #[.int .i64 (m : Int), .int .i64 (n : Int), .slice pa (m * n) cm]), TM) :: M))) v2 La.idm := hgu.w.lg (List.sublist_append_left ..)
  refine sl_call rfl rfl rfl rfl rfl rfl (fun _ => mbeside_co (hga.up uc sb) (hgb.up uc sb) (by omega) (by omega) (by omega)) ?_
  rintro v3 U3 D3 hU3 ⟨hgd, -⟩
  rw [side_aug] at hgd
  refine sl_perm (M' := (b2, .var (.agg #[.int .i64 (m : Int), .int .i64 (n : Int), .slice pa (m * n) cm]), TM) :: (D3 ++ (D2 ++ (D1 ++ M)))) ?_ pm
  refine sl_drop (M' := (b2, .var (.agg #[.int .i64 (m : Int), .int .i64 (n : Int), .slice pa (m * n) cm]), TM) :: (D3 ++ M)) sbk ?_
  clear hga hgb hgl hgu
  repeat (first | refine run_S ?_ | refine w_box (fun _ => ?_) | refine w_al (fun _ => ?_))
  refine sl_callC rfl rfl rfl rfl rfl rfl ((mreduce_cx (X := (b2, .var (.agg #[.int .i64 (m : Int), .int .i64 (n : Int), .slice pa (m * n) cm]), TM) :: M) (cl := n) hgd.w (aug_sz hb1 sT) (Nat.le_add_right n m) hb1 hg1 hgW (by omega) (by omega)).perm pm) ?_
  rintro v4 U4 M4 hU4 ⟨-, r, R, p, vp, xd, d, D', Dp, rfl, rfl, hg4, ⟨pp, cp, pvs, rfl, hrp, ep⟩, hd, hred, hsz, hsd⟩
  refine sl_perm (M' := (b2, .var (.agg #[.int .i64 (m : Int), .int .i64 (n : Int), .slice pa (m * n) cm]), TM) :: (D' ++ (Dp ++ M))) ?_ pm
  have hrm := hred.le
  obtain ⟨l1, l2⟩ := La.red_left hred
  obtain ⟨Do, F, pg, cg, svs, rfl, rfl, hro, hgs⟩ := hg4
  have hcg := hro.len
  have hFl : F.length = m := by rw [← hgs.1]; exact hcg.1
  clear hgd hd hsd
  repeat (first | refine run_S ?_ | refine w_box (fun _ => ?_) | refine w_al (fun _ => ?_))
  rename_i b8
  refine sl_perm (M := (b8, .var xd.v, TR) :: (b2, .var (.agg #[.int .i64 (m : Int), .int .i64 (n : Int), .slice pa (m * n) cm]), TM) :: ((Do ++ F.flatten) ++ (Dp ++ M))) (M' := (b8, .var xd.v, TR) :: (b2, .var (.agg #[.int .i64 (m : Int), .int .i64 (n : Int), .slice pa (m * n) cm]), TM) :: (Do ++ (F.flatten ++ (Dp ++ M)))) ?_ pm
  have hvec : Vm (Wq bv) 1 n U4 (.agg #[.int .i64 ((1 : Nat) : Int), .int .i64 (n : Int), .slice pb n cb]) (fun _ j => f j) := ⟨_, rfl, by
    rw [Nat.one_mul]
    exact Ls.congr (Ls.up hv2 kept_w uc sb) fun k hk => by unfold fl; rw [Nat.mod_eq_of_lt hk]⟩
  refine sl_call rfl rfl rfl rfl rfl rfl (fun _ => mload_co hvec (by omega) (by omega) (by omega) (by omega)) ?_
  rintro v5 U5 D5 hU5 ⟨⟨Dl, Fl, pl, cl, svl, rfl, rfl, hrl, hgl⟩, -⟩
  have hsl1 := hrl.len.1
  obtain ⟨q, c', rs0, Dr, hv0, hF0, hcc', hRr, er, -, -⟩ := hgl.put (i := 0) (by omega)
  have rl := hrl.at (U := U5) (M := (Dl ++ Fl.flatten) ++ ((b8, .var xd.v, TR) :: (b2, .var (.agg #[.int .i64 (m : Int), .int .i64 (n : Int), .slice pa (m * n) cm]), TM) :: (Do ++ (F.flatten ++ (Dp ++ M))))) sb
  try refine run_s ?_
  refine sl_y (yl_index sym rfl rfl rfl rfl rfl rfl (rl.lt hv0) (rl.get _ _ hv0).1) rfl rfl rfl rfl ?_; refine sl_y (yl_loadR1 sym rfl rfl rfl rfl rl hv0 rfl) rfl rfl rfl rfl ?_
  try refine run_s ?_
  have hFl1 : Fl = [Dr] := by
    have h1 : Fl.length = 1 := by rw [← hgl.1]; exact hsl1
    obtain ⟨x, rfl⟩ := List.length_eq_one_iff.1 h1
    simp at hF0
    rw [hF0]
  subst hFl1
  refine sl_perm (M := (Dl ++ [Dr].flatten) ++ ((b8, .var xd.v, TR) :: (b2, .var (.agg #[.int .i64 (m : Int), .int .i64 (n : Int), .slice pa (m * n) cm]), TM) :: (Do ++ (F.flatten ++ (Dp ++ M))))) (M' := (b8, .var xd.v, TR) :: (b2, .var (.agg #[.int .i64 (m : Int), .int .i64 (n : Int), .slice pa (m * n) cm]), TM) :: (Dr ++ (Dl ++ (Do ++ (F.flatten ++ (Dp ++ M)))))) ?_ pm
  refine sl_drop (M' := (b8, .var xd.v, TR) :: (b2, .var (.agg #[.int .i64 (m : Int), .int .i64 (n : Int), .slice pa (m * n) cm]), TM) :: (Dr ++ (Do ++ (F.flatten ++ (Dp ++ M))))) sbk ?_
  clear rl hv0 hF0 hgl hrl hsl1 hvec
  repeat (first | refine run_S ?_ | refine w_box (fun _ => ?_) | refine w_al (fun _ => ?_))
  refine sl_call rfl rfl rfl rfl rfl rfl (fun _ => mzeros_ct (n := m) (by omega)) ?_
  rintro v6 U6 D6 hU6 ⟨⟨px, cx, xs0, rfl, hrx, ex⟩, -⟩
  have hcx := hrx.len
  refine sl_perm (M' := (b8, .var xd.v, TR) :: (b2, .var (.agg #[.int .i64 (m : Int), .int .i64 (n : Int), .slice pa (m * n) cm]), TM) :: (D6 ++ (Dr ++ (Do ++ (F.flatten ++ (Dp ++ M)))))) ?_ pm
  try refine run_s ?_
  have rp := hrp.at (U := U4) (M := Dp) (List.Sublist.refl _)
  refine st_loop (fun z E U' M' => ∃ (i : Nat) (X rest : Nat → Rat) (xs rs : List Value) (Dx Dr : MH), i ≤ r ∧ RowW TR 4 Dx px m xs ∧ El Vq U' xs X ∧ RowW TR 4 Dr q n rs ∧ El Vq U' rs rest ∧
      (∀ j, j < n → f j = rest j + La.sm m fun t => X t * T t j) ∧ (∀ t, t < i → rest (p t) = 0) ∧ (∀ j, j < m → Szq (X j) (La.dbl (La.gro b m) bv i)) ∧ (∀ j, j < n → Szq (rest j) (La.dbl (La.gro b m) bv i)) ∧
      E = [(55, .int .i64 (i : Int)), (53, .slice pp r cp), (54, .int .i64 (r : Int)), (9, .slice q n c'), (10, .slice px m cx), (6, .slice pg m cg), (2, .pointer (some ⟨b2, 0, none⟩))] ∧ ULe U6 U' ∧ M' = (b8, .var xd.v, TR) :: (b2, .var (.agg #[.int .i64 (m : Int), .int .i64 (n : Int), .slice pa (m * n) cm]), TM) :: (Dx ++ (Dr ++ (Do ++ (F.flatten ++ (Dp ++ M))))) ∧ z = r - i) (n0 := r)
    (E0 := [(55, .int .i64 ((0 : Nat) : Int)), (53, .slice pp r cp), (54, .int .i64 (r : Int)), (9, .slice q n c'), (10, .slice px m cx), (6, .slice pg m cg), (2, .pointer (some ⟨b2, 0, none⟩))]) ⟨rfl, rfl, rfl, rfl, rfl, rfl, rfl, trivial⟩
    ⟨0, fun _ => 0, f, xs0, rs0, D6, Dr, by omega, hrx.w, ex, hRr.w, er.up kept_q uc, (fun j _ => by rw [La.sm_zero (fun t _ => Rat.zero_mul _), Rat.add_zero]), (fun t h => absurd h (Nat.not_lt_zero t)), (fun _ _ => szq_int0.mono hbv), sf, rfl, uc, rfl, rfl⟩ ?_
  clear hrx ex hRr er
  rintro z E U7 M' ⟨i, X, rest, xs, rs, Dx, Dr, hi, hX, eX, hR, eR, hmath, hzero, sX, sR, rfl, hU7, rfl, rfl⟩
  try refine run_s ?_
  refine st_dec rfl (fun h => ?_) (fun h => ?_)
  · have hir : i < r := by omega
    have hpi := hred.below i hir
    have hdle : La.dbl (La.gro b m) bv (i + 1) ≤ 1000000000 := Nat.le_trans (La.dbl_le (by omega)) hd1
    have hdst : La.dbl (La.gro b m) bv (i + 1) = 2 * La.dbl (La.gro b m) bv i + La.gro b m + 1 := rfl
    obtain ⟨vp1, hvp1⟩ := rp.at hir
    obtain rfl := ep _ _ hvp1
    have rp2 := rp.up (U' := U7) (M' := (b8, .var xd.v, TR) :: (b2, .var (.agg #[.int .i64 (m : Int), .int .i64 (n : Int), .slice pa (m * n) cm]), TM) :: (Dx ++ (Dr ++ (Do ++ (F.flatten ++ (Dp ++ M)))))) uc sb
    have rR := hR.at (U := U7) (M := (b8, .var xd.v, TR) :: (b2, .var (.agg #[.int .i64 (m : Int), .int .i64 (n : Int), .slice pa (m * n) cm]), TM) :: (Dx ++ (Dr ++ (Do ++ (F.flatten ++ (Dp ++ M)))))) sb
    obtain ⟨v8, hv8⟩ := rR.at hpi
    obtain ⟨x8, rfl, hx8⟩ := eR _ _ hv8
    have s8 := sR (p i) hpi
    have hFi := List.getElem?_eq_getElem (show i < F.length by omega)
    have hsv := List.getElem?_eq_getElem (show i < svs.length by omega)
    generalize svs[i] = v9 at hsv
    generalize F[i] = Di at hFi
    obtain ⟨qi, ci, vi, rfl, hcci, hRi, eli⟩ := hgs.2 _ _ _ hsv hFi
    have hlen0 : n + m - 0 = n + m := by omega
    try refine run_s ?_
    refine sl_y (yl_index sym rfl rfl rfl rfl rfl rfl (rp2.lt hvp1) (rp2.get _ _ hvp1).1) rfl rfl rfl rfl ?_; refine sl_y (yl_loadR1 sym rfl rfl rfl rfl rp2 hvp1 rfl) rfl rfl rfl rfl ?_
    try refine run_s ?_
    refine sl_y (yl_index sym rfl rfl rfl rfl rfl rfl (rR.lt hv8) (rR.get _ _ hv8).1) rfl rfl rfl rfl ?_; refine sl_y (yl_loadRs sym rfl rfl rfl rfl rfl rR hv8) rfl rfl rfl rfl ?_
    repeat (first | refine run_S ?_ | refine w_box (fun _ => ?_) | refine w_al (fun _ => ?_))
    rename_i b13
    refine sl_call rfl rfl rfl rfl rfl rfl (fun _ => nonzero_ct (hx8.rep.up uc sb) (hx8.le s8 (by omega))) ?_
    rintro v U' D hU ⟨rfl, rfl, rfl⟩
    repeat (first | refine run_S ?_ | refine w_box (fun _ => ?_) | refine w_al (fun _ => ?_))
    refine st_anti (M' := (b13, .var x8.v, TR) :: (b8, .var xd.v, TR) :: (b2, .var (.agg #[.int .i64 (m : Int), .int .i64 (n : Int), .slice pa (m * n) cm]), TM) :: (Dx ++ (Dr ++ (Do ++ (F.flatten ++ (Dp ++ M)))))) (ULe.refl _) (List.Sublist.refl _) ?_
    have e1 : n + m - n = m := by omega
    have hlN : ∀ j, j < n → R i j = La.sm m fun t => R i (n + t) * T t j := fun j hj => La.sp_aug.1 (hred.span.lt i (by omega)) j hj
    by_cases hf : rest (p i) ≠ 0
    · rw [decide_eq_true hf]
      have rG := hro.at (U := U7) (M := (b13, .var x8.v, TR) :: (b8, .var xd.v, TR) :: (b2, .var (.agg #[.int .i64 (m : Int), .int .i64 (n : Int), .slice pa (m * n) cm]), TM) :: (Dx ++ (Dr ++ (Do ++ (F.flatten ++ (Dp ++ M)))))) sb
      try refine run_s ?_
      refine st_drawM [9] [0, 1, 2, 3, 4, 5, 6, 7, 8, 9] sym (by kernel_rfl) ?_
      try refine run_s ?_
      refine sl_y (yl_index sym rfl rfl rfl rfl rfl rfl (rG.lt hsv) (rG.get _ _ hsv).1) rfl rfl rfl rfl ?_; refine sl_y (yl_loadR1 sym rfl rfl rfl rfl rG hsv rfl) rfl rfl rfl rfl ?_
      try refine run_s ?_
      refine w_sFrom (lo := n) (n := n + m) (by omega) hcci ?_
      have hri := (hRi.at (U := U7) (M := (b13, .var x8.v, TR) :: (b8, .var xd.v, TR) :: (b2, .var (.agg #[.int .i64 (m : Int), .int .i64 (n : Int), .slice pa (m * n) cm]), TM) :: (Dr ++ (Do ++ (F.flatten ++ (Dp ++ M))))) ((List.sublist_flatten_of_mem (List.mem_of_getElem? hFi)).trans ((List.sublist_append_left ..).trans sb))).drop (l := n) (by omega) hcci
      have hni : El Vq U7 (vi.drop n) (fun j => R i (n + j)) := fun k x hk => by
        rw [List.getElem?_drop] at hk
        exact kept_q _ _ _ _ uc (eli _ _ hk)
      rw [e1] at hri ⊢
      generalize (if ci = n then qi else qi.map (·.add (n * 4))) = q2 at hri ⊢
      try refine run_s ?_
      refine sl_callC rfl rfl rfl rfl rfl rfl ((combine_cx (b := La.dbl (La.gro b m) bv i + La.gro b m) (fr := 0) (X := (b13, .var x8.v, TR) :: (b8, .var xd.v, TR) :: (b2, .var (.agg #[.int .i64 (m : Int), .int .i64 (n : Int), .slice pa (m * n) cm]), TM) :: (Dr ++ (Do ++ (F.flatten ++ (Dp ++ M))))) hX eX (vb := .slice q2 m (ci - n)) (g := fun j => R i (n + j)) ⟨q2, ci - n, _, rfl, by omega, hri, hni⟩ (hx8.up uc sb) (Nat.zero_le m) (fun j hj => (sX j hj).mono (by omega)) (fun j hj => (hsz i (n + j) (by omega) (by omega)).mono (by omega)) (s8.mono (by omega)) (by omega) (by omega)).perm pm) ?_
      rintro v10 U10 M10 hU10 ⟨-, Dx2, xs2, rfl, hX2, eX2⟩
      refine sl_perm (M' := (b13, .var x8.v, TR) :: (b8, .var xd.v, TR) :: (b2, .var (.agg #[.int .i64 (m : Int), .int .i64 (n : Int), .slice pa (m * n) cm]), TM) :: (Dx2 ++ (Dr ++ (Do ++ (F.flatten ++ (Dp ++ M)))))) ?_ pm
      have eX3 : El Vq U10 xs2 (fun j => X j + rest (p i) * R i (n + j)) := eX2.congr hX2.len fun j _ => if_pos (Nat.zero_le j)
      have rG2 := hro.at (U := U10) (M := (b13, .var x8.v, TR) :: (b8, .var xd.v, TR) :: (b2, .var (.agg #[.int .i64 (m : Int), .int .i64 (n : Int), .slice pa (m * n) cm]), TM) :: (Dx2 ++ (Dr ++ (Do ++ (F.flatten ++ (Dp ++ M)))))) sb
      try refine run_s ?_
      refine st_drawM [10] [0, 1, 2, 3, 4, 5, 6, 7, 8, 9, 10] sym (by kernel_rfl) ?_
      try refine run_s ?_
      refine sl_y (yl_index sym rfl rfl rfl rfl rfl rfl (rG2.lt hsv) (rG2.get _ _ hsv).1) rfl rfl rfl rfl ?_; refine sl_y (yl_loadR1 sym rfl rfl rfl rfl rG2 hsv rfl) rfl rfl rfl rfl ?_
      try refine run_s ?_
      refine w_sTo (h := n) (c := ci) (by omega) ?_
      try refine run_s ?_
      refine sl_call rfl rfl rfl rfl rfl rfl (fun _ => (qNeg_ct (hx8.rep.up uc sb) (hx8.le s8 (by omega))).settle) ?_
      rintro v Uh11 D hU ⟨rfl, _, _, ⟨xh11, rfl, h11, -⟩, -, -, hs⟩
      replace h11 := h11.sett hs
      clear hs
      repeat (first | refine run_S ?_ | refine w_box (fun _ => ?_) | refine w_al (fun _ => ?_))
      have hri2 := (hRi.at (U := Uh11) (M := (b13, .var x8.v, TR) :: (b8, .var xd.v, TR) :: (b2, .var (.agg #[.int .i64 (m : Int), .int .i64 (n : Int), .slice pa (m * n) cm]), TM) :: (Dx2 ++ (Do ++ (F.flatten ++ (Dp ++ M))))) ((List.sublist_flatten_of_mem (List.mem_of_getElem? hFi)).trans ((List.sublist_append_left ..).trans sb))).take (k := n) (by omega)
      have hni2 : El Vq Uh11 (vi.take n) (fun j => R i j) := fun k x hk => by
        rw [List.getElem?_take] at hk
        split at hk
        · exact kept_q _ _ _ _ uc (eli _ _ hk)
        · cases hk
      refine sl_callC rfl rfl rfl rfl rfl rfl ((combine_cx (b := La.dbl (La.gro b m) bv i + La.gro b m) (fr := 0) (X := (b13, .var x8.v, TR) :: (b8, .var xd.v, TR) :: (b2, .var (.agg #[.int .i64 (m : Int), .int .i64 (n : Int), .slice pa (m * n) cm]), TM) :: (Dx2 ++ (Do ++ (F.flatten ++ (Dp ++ M))))) hR (eR.up kept_q uc) (vb := .slice qi n ci) (g := fun j => R i j) ⟨qi, ci, _, rfl, by omega, hri2, hni2⟩ h11 (Nat.zero_le n) (fun j hj => (sR j hj).mono (by omega)) (fun j hj => (hsz i j (by omega) (by omega)).mono (by omega)) (s8.neg.mono (by omega)) (by omega) (by omega)).perm pm) ?_
      rintro v12 U12 M12 hU12 ⟨-, Dr2, rs2, rfl, hR2, eR2⟩
      refine sl_perm (M' := (b13, .var x8.v, TR) :: (b8, .var xd.v, TR) :: (b2, .var (.agg #[.int .i64 (m : Int), .int .i64 (n : Int), .slice pa (m * n) cm]), TM) :: (Dx2 ++ (Dr2 ++ (Do ++ (F.flatten ++ (Dp ++ M)))))) ?_ pm
      have eR3 : El Vq U12 rs2 (fun j => rest j + -(rest (p i)) * R i j) := eR2.congr hR2.len fun j _ => if_pos (Nat.zero_le j)
      try refine run_s ?_
      refine sk_anti (M' := (b8, .var xd.v, TR) :: (b2, .var (.agg #[.int .i64 (m : Int), .int .i64 (n : Int), .slice pa (m * n) cm]), TM) :: (Dx2 ++ (Dr2 ++ (Do ++ (F.flatten ++ (Dp ++ M)))))) (ULe.refl _) (List.sublist_cons_self ..) ?_
      exact sk_again (E' := [(55, .int .i64 ((i : Int) + 1)), (53, .slice pp r cp), (54, .int .i64 (r : Int)), (9, .slice q n c'), (10, .slice px m cx), (6, .slice pg m cg), (2, .pointer (some ⟨b2, 0, none⟩))]) (m := r - (i + 1)) ⟨rfl, rfl, rfl, rfl, rfl, rfl, rfl, trivial⟩ (by omega)
        ⟨i + 1, fun j => X j + rest (p i) * R i (n + j), fun j => rest j + -(rest (p i)) * R i j, xs2, rs2, Dx2, Dr2, by omega, hX2, eX3.up kept_q uc, hR2, eR3, La.part_step hlN hmath (rest (p i)), (fun t ht => by
          rcases Nat.lt_or_eq_of_le (Nat.le_of_lt_succ ht) with h1 | h1
          · show rest (p t) + -(rest (p i)) * R i (p t) = 0
            rw [hred.ech.one i t hir (by omega), if_neg (by omega), hzero t h1, Rat.mul_zero, Rat.add_zero]
          · subst h1
            show rest (p t) + -(rest (p t)) * R t (p t) = 0
            rw [hred.ech.one t t hir hir, if_pos rfl, Rat.mul_one, Rat.add_neg_cancel]), (fun j hj => ((sX j hj).add (s8.mul (hsz i (n + j) (by omega) (by omega)))).mono (by omega)), (fun j hj => ((sR j hj).add (s8.neg.mul (hsz i j (by omega) (by omega)))).mono (by omega)), rfl, uc, rfl, rfl⟩
    · rw [decide_eq_false hf]
      have hf0 : rest (p i) = 0 := Classical.not_not.1 hf
      try refine run_s ?_
      refine sk_anti (M' := (b8, .var xd.v, TR) :: (b2, .var (.agg #[.int .i64 (m : Int), .int .i64 (n : Int), .slice pa (m * n) cm]), TM) :: (Dx ++ (Dr ++ (Do ++ (F.flatten ++ (Dp ++ M)))))) (ULe.refl _) (List.sublist_cons_self ..) ?_
      exact sk_again (E' := [(55, .int .i64 ((i : Int) + 1)), (53, .slice pp r cp), (54, .int .i64 (r : Int)), (9, .slice q n c'), (10, .slice px m cx), (6, .slice pg m cg), (2, .pointer (some ⟨b2, 0, none⟩))]) (m := r - (i + 1)) ⟨rfl, rfl, rfl, rfl, rfl, rfl, rfl, trivial⟩ (by omega)
        ⟨i + 1, X, rest, xs, rs, Dx, Dr, by omega, hX, eX, hR, eR, hmath, (fun t ht => by
          rcases Nat.lt_or_eq_of_le (Nat.le_of_lt_succ ht) with h1 | h1
          · exact hzero t h1
          · rw [h1]; exact hf0), (fun j hj => (sX j hj).mono (by omega)), (fun j hj => (sR j hj).mono (by omega)), rfl, uc, rfl, rfl⟩
  · have e : i = r := by omega
    subst e
    have hdle : La.dbl (La.gro b m) bv i ≤ La.dbl (La.gro b m) bv m := La.dbl_le hrm
    try refine run_s ?_
    refine st_loop (fun z E U' M' => ∃ j : Nat, j ≤ n ∧ (∀ t, t < j → rest t = 0) ∧ E = [(90, .int .i64 (j : Int)), (88, .slice q n c'), (89, .int .i64 (n : Int)), (10, .slice px m cx), (2, .pointer (some ⟨b2, 0, none⟩))] ∧ U7 = U' ∧ M' = (b8, .var xd.v, TR) :: (b2, .var (.agg #[.int .i64 (m : Int), .int .i64 (n : Int), .slice pa (m * n) cm]), TM) :: (Dx ++ (Dr ++ (Do ++ (F.flatten ++ (Dp ++ M))))) ∧ z = n - j) (n0 := n)
      (E0 := [(90, .int .i64 ((0 : Nat) : Int)), (88, .slice q n c'), (89, .int .i64 (n : Int)), (10, .slice px m cx), (2, .pointer (some ⟨b2, 0, none⟩))]) ⟨rfl, rfl, rfl, rfl, rfl, trivial⟩ ⟨0, by omega, (fun t h => absurd h (Nat.not_lt_zero t)), rfl, rfl, rfl, rfl⟩ ?_
    rintro z E U8 M' ⟨j, hj, hz, rfl, rfl, rfl, rfl⟩
    try refine run_s ?_
    refine st_dec rfl (fun h5 => ?_) (fun h5 => ?_)
    · have hjn : j < n := by omega
      have rR := hR.at (U := U7) (M := (b8, .var xd.v, TR) :: (b2, .var (.agg #[.int .i64 (m : Int), .int .i64 (n : Int), .slice pa (m * n) cm]), TM) :: (Dx ++ (Dr ++ (Do ++ (F.flatten ++ (Dp ++ M)))))) sb
      obtain ⟨v8, hv8⟩ := rR.at hjn
      obtain ⟨x8, rfl, hx8⟩ := eR _ _ hv8
      have s8 := sR j hjn
      try refine run_s ?_
      refine sl_y (yl_index sym rfl rfl rfl rfl rfl rfl (rR.lt hv8) (rR.get _ _ hv8).1) rfl rfl rfl rfl ?_; refine sl_y (yl_loadRs sym rfl rfl rfl rfl rfl rR hv8) rfl rfl rfl rfl ?_
      repeat (first | refine run_S ?_ | refine w_box (fun _ => ?_) | refine w_al (fun _ => ?_))
      rename_i b15
      refine sl_call rfl rfl rfl rfl rfl rfl (fun _ => nonzero_ct (hx8.rep.up uc sb) (hx8.le s8 (by omega))) ?_
      rintro v U' D hU ⟨rfl, rfl, rfl⟩
      repeat (first | refine run_S ?_ | refine w_box (fun _ => ?_) | refine w_al (fun _ => ?_))
      by_cases hf : rest j ≠ 0
      · rw [decide_eq_true hf]
        try refine run_s ?_
        exact sk_ret [] sym rfl (.cons (.tmp rfl) (.cons (.tmp rfl) .nil)) uc sb (.inl rfl) ⟨(fun _ => ⟨rfl, rfl⟩), (fun ⟨y, hy⟩ => absurd (La.part_none l1 l2 hmath hzero hy j hjn) hf), uc⟩
      · rw [decide_eq_false hf]
        have hf0 : rest j = 0 := Classical.not_not.1 hf
        try refine run_s ?_
        refine sk_anti (M' := (b8, .var xd.v, TR) :: (b2, .var (.agg #[.int .i64 (m : Int), .int .i64 (n : Int), .slice pa (m * n) cm]), TM) :: (Dx ++ (Dr ++ (Do ++ (F.flatten ++ (Dp ++ M)))))) (ULe.refl _) (List.sublist_cons_self ..) ?_
        exact sk_again (E' := [(90, .int .i64 ((j : Int) + 1)), (88, .slice q n c'), (89, .int .i64 (n : Int)), (10, .slice px m cx), (2, .pointer (some ⟨b2, 0, none⟩))]) (m := n - (j + 1)) ⟨rfl, rfl, rfl, rfl, rfl, trivial⟩ (by omega)
          ⟨j + 1, by omega, (fun t ht => by
            rcases Nat.lt_or_eq_of_le (Nat.le_of_lt_succ ht) with h1 | h1
            · exact hz t h1
            · rw [h1]; exact hf0), rfl, rfl, rfl, rfl⟩
    · have e : j = n := by omega
      subst e
      have hsol : La.Sol m j T f X := fun t ht => by rw [hmath t ht, hz t ht, Rat.zero_add]
      try refine run_s ?_
      have sX2 : ∀ t, t < m → Szq (X t) (La.dbl (La.gro b m) bv m) := fun t ht => (sX t ht).mono hdle
      refine sl_call rfl rfl rfl rfl rfl rfl (fun _ => mkernel_co (kept_m kept_w _ _ _ _ uc hm2) hb1 hg1 hg2 hg3 hm1 hn1) ?_
      rintro v9 U9 D9 hU9 ⟨s, Kk, qk, vg9, vp9, DK, DQ, rfl, hgK, ⟨pq, cq, qvs, rfl, hrq, eq⟩, rfl, -, hk, hszK, -⟩
      obtain ⟨DKo, FK, pK, cK, kvs, rfl, rfl, hroK, hgsK⟩ := hgK
      have hsm := hk.ech.le_n
      have hklen := hroK.len.1
      refine sl_perm (M := ((DKo ++ FK.flatten) ++ DQ) ++ ((b8, .var xd.v, TR) :: (b2, .var (.agg #[.int .i64 (m : Int), .int .i64 (j : Int), .slice pa (m * j) cm]), TM) :: (Dx ++ (Dr ++ (Do ++ (F.flatten ++ (Dp ++ M))))))) (M' := (b8, .var xd.v, TR) :: (b2, .var (.agg #[.int .i64 (m : Int), .int .i64 (j : Int), .slice pa (m * j) cm]), TM) :: (Dx ++ (Dr ++ (DKo ++ (FK.flatten ++ (DQ ++ (Do ++ (F.flatten ++ (Dp ++ M))))))))) ?_ pm
      refine sl_drop (M' := (b8, .var xd.v, TR) :: (b2, .var (.agg #[.int .i64 (m : Int), .int .i64 (j : Int), .slice pa (m * j) cm]), TM) :: (Dx ++ (DKo ++ (FK.flatten ++ (DQ ++ M))))) sbk ?_
      have rq := hrq.at (U := U9) (M := DQ) (List.Sublist.refl _)
      try refine run_s ?_
      refine st_loop (fun z E U' M' => ∃ (i : Nat) (X : Nat → Rat) (xs : List Value) (Dx : MH), i ≤ s ∧ RowW TR 4 Dx px m xs ∧ El Vq U' xs X ∧ La.Sol m j T f X ∧ (∀ t, t < i → X (qk t) = 0) ∧ (∀ t, t < m → Szq (X t) (La.dbl (La.gro (La.gro b m) m) (La.dbl (La.gro b m) bv m) i)) ∧
          E = [(104, .int .i64 (i : Int)), (102, .slice pq s cq), (103, .int .i64 (s : Int)), (10, .slice px m cx), (16, .slice pK s cK)] ∧ ULe U9 U' ∧ M' = (b8, .var xd.v, TR) :: (b2, .var (.agg #[.int .i64 (m : Int), .int .i64 (j : Int), .slice pa (m * j) cm]), TM) :: (Dx ++ (DKo ++ (FK.flatten ++ (DQ ++ M)))) ∧ z = s - i) (n0 := s)
        (E0 := [(104, .int .i64 ((0 : Nat) : Int)), (102, .slice pq s cq), (103, .int .i64 (s : Int)), (10, .slice px m cx), (16, .slice pK s cK)]) ⟨rfl, rfl, rfl, rfl, rfl, trivial⟩ ⟨0, X, xs, Dx, by omega, hX, eX.up kept_q uc, hsol, (fun t h => absurd h (Nat.not_lt_zero t)), sX2, rfl, uc, rfl, rfl⟩ ?_
      clear hX eX hsol sX sX2 hmath hzero hR eR sR
      rintro z E U10 M' ⟨i, X, xs, Dx, hi, hX, eX, hsol, hzero, sX, rfl, hU10, rfl, rfl⟩
      try refine run_s ?_
      refine st_dec rfl (fun h => ?_) (fun h => ?_)
      · have his : i < s := by omega
        have hqi := hk.ech.lt i his
        have hdle2 : La.dbl (La.gro (La.gro b m) m) (La.dbl (La.gro b m) bv m) (i + 1) ≤ 9000000000 := Nat.le_trans (La.dbl_le (by omega)) hd2
        have hdst : La.dbl (La.gro (La.gro b m) m) (La.dbl (La.gro b m) bv m) (i + 1) = 2 * La.dbl (La.gro (La.gro b m) m) (La.dbl (La.gro b m) bv m) i + La.gro (La.gro b m) m + 1 := rfl
        generalize hτ : La.dbl (La.gro (La.gro b m) m) (La.dbl (La.gro b m) bv m) i = τ at sX hdst
        obtain ⟨vq1, hvq1⟩ := rq.at his
        obtain rfl := eq _ _ hvq1
        have rq2 := rq.up (U' := U10) (M' := (b8, .var xd.v, TR) :: (b2, .var (.agg #[.int .i64 (m : Int), .int .i64 (j : Int), .slice pa (m * j) cm]), TM) :: (Dx ++ (DKo ++ (FK.flatten ++ (DQ ++ M))))) uc sb
        have rX := hX.at (U := U10) (M := (b8, .var xd.v, TR) :: (b2, .var (.agg #[.int .i64 (m : Int), .int .i64 (j : Int), .slice pa (m * j) cm]), TM) :: (Dx ++ (DKo ++ (FK.flatten ++ (DQ ++ M))))) sb
        obtain ⟨v8, hv8⟩ := rX.at hqi
        obtain ⟨x8, rfl, hx8⟩ := eX _ _ hv8
        have s8 := sX (qk i) hqi
        have hFKl : i < FK.length := by rw [← hgsK.1]; omega
        have hkvl : i < kvs.length := by omega
        have hFi := List.getElem?_eq_getElem hFKl
        have hsv := List.getElem?_eq_getElem hkvl
        generalize kvs[i] = v9 at hsv
        generalize FK[i] = Di at hFi
        obtain ⟨qi, ci, vi, rfl, hcci, hRi, eli⟩ := hgsK.2 _ _ _ hsv hFi
        try refine run_s ?_
        refine sl_y (yl_index sym rfl rfl rfl rfl rfl rfl (rq2.lt hvq1) (rq2.get _ _ hvq1).1) rfl rfl rfl rfl ?_; refine sl_y (yl_loadR1 sym rfl rfl rfl rfl rq2 hvq1 rfl) rfl rfl rfl rfl ?_
        try refine run_s ?_
        refine sl_y (yl_index sym rfl rfl rfl rfl rfl rfl (rX.lt hv8) (rX.get _ _ hv8).1) rfl rfl rfl rfl ?_; refine sl_y (yl_loadRs sym rfl rfl rfl rfl rfl rX hv8) rfl rfl rfl rfl ?_
        refine sl_call rfl rfl rfl rfl rfl rfl (fun _ => nonzero_ct (hx8.rep.up uc sb) (hx8.le s8 (by omega))) ?_
        rintro v U' D hU ⟨rfl, rfl, rfl⟩
        repeat (first | refine run_S ?_ | refine w_box (fun _ => ?_) | refine w_al (fun _ => ?_))
        by_cases hf : X (qk i) ≠ 0
        · rw [decide_eq_true hf]
          have rG := hroK.at (U := U10) (M := (b8, .var xd.v, TR) :: (b2, .var (.agg #[.int .i64 (m : Int), .int .i64 (j : Int), .slice pa (m * j) cm]), TM) :: (Dx ++ (DKo ++ (FK.flatten ++ (DQ ++ M))))) sb
          try refine run_s ?_
          refine st_drawM [10] [0, 1, 2, 3, 4, 5, 6, 7, 8, 9, 10] sym (by kernel_rfl) ?_
          try refine run_s ?_
          refine sl_y (yl_index sym rfl rfl rfl rfl rfl rfl (rG.lt hsv) (rG.get _ _ hsv).1) rfl rfl rfl rfl ?_; refine sl_y (yl_loadR1 sym rfl rfl rfl rfl rG hsv rfl) rfl rfl rfl rfl ?_
          try refine run_s ?_
          refine sl_y (yl_index sym rfl rfl rfl rfl rfl rfl (rX.lt hv8) (rX.get _ _ hv8).1) rfl rfl rfl rfl ?_; refine sl_y (yl_loadRs sym rfl rfl rfl rfl rfl rX hv8) rfl rfl rfl rfl ?_
          try refine run_s ?_
          refine sl_call rfl rfl rfl rfl rfl rfl (fun _ => (qNeg_ct (hx8.rep.up uc sb) (hx8.le s8 (by omega))).settle) ?_
          rintro v Uh11 D hU ⟨rfl, _, _, ⟨xh11, rfl, h11, -⟩, -, -, hs⟩
          replace h11 := h11.sett hs
          clear hs
          repeat (first | refine run_S ?_ | refine w_box (fun _ => ?_) | refine w_al (fun _ => ?_))
          have hri := hRi.at (U := Uh11) (M := (b8, .var xd.v, TR) :: (b2, .var (.agg #[.int .i64 (m : Int), .int .i64 (j : Int), .slice pa (m * j) cm]), TM) :: (DKo ++ (FK.flatten ++ (DQ ++ M)))) ((List.sublist_flatten_of_mem (List.mem_of_getElem? hFi)).trans ((List.sublist_append_left ..).trans sb))
          refine sl_callC rfl rfl rfl rfl rfl rfl ((combine_cx (b := τ + La.gro (La.gro b m) m) (fr := 0) (X := (b8, .var xd.v, TR) :: (b2, .var (.agg #[.int .i64 (m : Int), .int .i64 (j : Int), .slice pa (m * j) cm]), TM) :: (DKo ++ (FK.flatten ++ (DQ ++ M)))) hX (eX.up kept_q uc) (vb := .slice qi m ci) (g := Kk i) ⟨qi, ci, _, rfl, hcci, hri, eli.up kept_q uc⟩ h11 (Nat.zero_le m) (fun j hj => (sX j hj).mono (by omega)) (fun j hj => (hszK i j his hj).mono (by omega)) (s8.neg.mono (by omega)) (by omega) (by omega)).perm pm) ?_
          rintro v12 U12 M12 hU12 ⟨-, Dx2, xs2, rfl, hX2, eX2⟩
          refine sl_perm (M' := (b8, .var xd.v, TR) :: (b2, .var (.agg #[.int .i64 (m : Int), .int .i64 (j : Int), .slice pa (m * j) cm]), TM) :: (Dx2 ++ (DKo ++ (FK.flatten ++ (DQ ++ M))))) ?_ pm
          have eX3 : El Vq U12 xs2 (fun j => X j + -(X (qk i)) * Kk i j) := eX2.congr hX2.len fun j _ => if_pos (Nat.zero_le j)
          try refine run_s ?_
          exact sk_again (E' := [(104, .int .i64 ((i : Int) + 1)), (102, .slice pq s cq), (103, .int .i64 (s : Int)), (10, .slice px m cx), (16, .slice pK s cK)]) (m := s - (i + 1)) ⟨rfl, rfl, rfl, rfl, rfl, trivial⟩ (by omega)
            ⟨i + 1, fun j => X j + -(X (qk i)) * Kk i j, xs2, Dx2, by omega, hX2, eX3, hsol.add ((hk.sp _).2 (La.Sp.row his)) _, (fun t ht => by
              rcases Nat.lt_or_eq_of_le (Nat.le_of_lt_succ ht) with h1 | h1
              · show X (qk t) + -(X (qk i)) * Kk i (qk t) = 0
                rw [hk.ech.one i t his (by omega), if_neg (by omega), hzero t h1, Rat.mul_zero, Rat.add_zero]
              · subst h1
                show X (qk t) + -(X (qk t)) * Kk t (qk t) = 0
                rw [hk.ech.one t t his his, if_pos rfl, Rat.mul_one, Rat.add_neg_cancel]), (fun t ht => ((sX t ht).add (s8.neg.mul (hszK i t his ht))).mono (by omega)), rfl, uc, rfl, rfl⟩
        · rw [decide_eq_false hf]
          have hf0 : X (qk i) = 0 := Classical.not_not.1 hf
          try refine run_s ?_
          exact sk_again (E' := [(104, .int .i64 ((i : Int) + 1)), (102, .slice pq s cq), (103, .int .i64 (s : Int)), (10, .slice px m cx), (16, .slice pK s cK)]) (m := s - (i + 1)) ⟨rfl, rfl, rfl, rfl, rfl, trivial⟩ (by omega)
            ⟨i + 1, X, xs, Dx, by omega, hX, eX, hsol, (fun t ht => by
              rcases Nat.lt_or_eq_of_le (Nat.le_of_lt_succ ht) with h1 | h1
              · exact hzero t h1
              · rw [h1]; exact hf0), (fun t ht => (sX t ht).mono (by omega)), rfl, uc, rfl, rfl⟩
      · have e : i = s := by omega
        subst e
        try refine run_s ?_
        exact sk_ret Dx sym rfl (.cons (.tmp rfl) (.cons (.tmp rfl) .nil)) uc sb (.inl rfl) ⟨(fun hno => absurd hsol (hno X)), (fun _ => ⟨X, px, cx, xs, rfl, hcx.2.1, hX, eX, ⟨hsol, i, Kk, qk, hk, hzero⟩, fun t ht => (sX t ht).mono (La.dbl_le hsm)⟩), uc⟩

theorem mSolve_ct {m n b bv : Nat} {vm vb : Value} {T : Nat → Nat → Rat} {f : Nat → Rat} (hm : Vm (Wq b) m n U vm T) (hv : Ls (Wq bv) 4 n U [] vb f) (hb1 : 1 ≤ b) (hbv : 1 ≤ bv) (hbv2 : bv ≤ 1000000000) (hg1 : 1 + m * La.gro b m ≤ 1000000000) (hg2 : 1 + m * La.gro (La.gro b m) m ≤ 1000000000) (hg3 : La.gro (La.gro b m) m ≤ 1000000000)
    (hd1 : La.dbl (La.gro b m) bv m ≤ 1000000000) (hd2 : La.dbl (La.gro (La.gro b m) m) (La.dbl (La.gro b m) bv m) m ≤ 9000000000) (hm1 : m ≤ 1000) (hn1 : n ≤ 1000) :
    Ct Try.prog 28 [vm, vb] G U M fun v U' D => ((∀ y, ¬ La.Sol m n T f y) → v = .tuple #[.slice none 0 0, .int .i64 11]) ∧ ((∃ y, La.Sol m n T f y) → ∃ (X : Nat → Rat) (vx : Value), v = .tuple #[vx, .int .i64 0] ∧ Ls Vq 4 m U' [] vx X ∧ La.SolOf m n T f X) ∧ D = [] :=
  (mSolve_co hm hv hb1 hbv hbv2 hg1 hg2 hg3 hd1 hd2 hm1 hn1).settle.mono fun _ _ _ _ ⟨h1, _, _, ⟨h2, h3, _⟩, _, h6, h7⟩ =>
    ⟨fun hn => (h2 hn).1, fun hy => by
      obtain ⟨X, px, cx, xs, h4, h5, h8, h9, h10, -⟩ := h3 hy
      exact ⟨X, _, h4, ⟨px, cx, xs, rfl, h5, h8.sett h7, h9.up kept_q h6⟩, h10⟩, h1⟩

end Go.Proofs.Ytcfgogamamdipaa
