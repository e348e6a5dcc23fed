/- Texts of this seat's own, merged: each begins with its own remark. -/
import Derived.Test.YtocjmbilepbokaaGreatB97
import Derived.Test.YtocjmbilepbokaaGreatM23
import Derived.Test.YtocjmbilepbokaaGreatM34
/- Walks of matrix: grids of zeros, unit grids, grids side by side. -/
namespace Go.Proofs.YtocjmbilepbokaaGreat
open Go.Hp
variable {G : World} {U U' : UH} {M M' : MH}

theorem mblank_co {r c : Nat} (hr : r ≤ 100000) (hc : c ≤ 100000) :
    Ct Tryz.prog 121 [.int .i64 (r : Int), .int .i64 (c : Int)] G U M fun v U' D => Go rO r c U' D v (fun _ _ => (0 : Rat)) ∧ ULe U U' := by
  refine ct_of_st Tryz.func121 rfl rfl rfl rfl ?_
  repeat (first | refine run_S ?_ | refine w_box (fun _ => ?_) | refine w_al (fun _ => ?_))
  refine sl_make (m := r) (n := r) sym rfl rfl rfl rfl rfl rfl rfl rfl rfl (Nat.le_refl r) (by omega) (by omega) rfl rfl rfl rfl (fun b2 => ?_)
  have hrow := rowO_make (e := TRs) (s := 1) (b := b2) (n := r) (z := .slice none 0 0) rfl (by omega)
  try refine run_s ?_
  refine st_loop (fun z E U' M' => ∃ (i : Nat) (svs : List Value) (D : MH) (F : List MH), i ≤ r ∧ RowO TRs 1 D (some ⟨b2, 0, none⟩) r r svs ∧ Gs rO c U' (svs.take i) F (fun _ _ => (0 : Rat)) ∧ E = [(11, .int .i64 (i : Int)), (5, .slice (some ⟨b2, 0, none⟩) r r), (10, .int .i64 (r : Int)), (1, .int .i64 (c : Int))] ∧ ULe U U' ∧
      M' = D ++ (F.flatten ++ M) ∧ z = r - i) (n0 := r)
    (E0 := [(11, .int .i64 ((0 : Nat) : Int)), (5, .slice (some ⟨b2, 0, none⟩) r r), (10, .int .i64 (r : Int)), (1, .int .i64 (c : Int))]) ⟨rfl, rfl, rfl, rfl, trivial⟩ ⟨0, _, [(b2, _, _)], [], by omega, hrow, Gs.nil, rfl, uc, rfl, rfl⟩ ?_
  clear hrow
  rintro z E U1 M' ⟨i, svs, D, F, hi, hrow, hg, rfl, hU1, rfl, rfl⟩
  try refine run_s ?_
  refine st_dec rfl (fun h => ?_) (fun h => ?_)
  · have hir : i < r := by omega
    try refine run_s ?_
    refine sl_call rfl rfl rfl rfl rfl rfl (fun _ => mzeros_ct (n := c) (by omega)) ?_
    rintro v2 U2 D2 hU2 ⟨⟨p2, c2, us, rfl, hrow2, hel⟩, -⟩
    refine w_addr (j := i) hir rfl ?_
    refine w_storeR (X := D2 ++ (F.flatten ++ M)) hrow pm hir (fun D3 hr3 => ?_)
    have hsl := hrow.len.1
    have hvi : (svs.set i (.slice p2 c c2))[i]? = some (.slice p2 c c2) := List.getElem?_set_self (by omega)
    have hgi : Gs rO c U2 ((svs.set i (.slice p2 c c2)).take i) F (fun _ _ => (0 : Rat)) := by rw [List.take_set_of_le (Nat.le_refl i)]; exact hg.up uc
    generalize svs.set i (.slice p2 c c2) = sv2 at hr3 hvi hgi
    try refine run_s ?_
    refine sk_perm (M' := D3 ++ ((F ++ [D2]).flatten ++ M)) pm ?_
    exact sk_again (E' := [(11, .int .i64 ((i : Int) + 1)), (5, .slice (some ⟨b2, 0, none⟩) r r), (10, .int .i64 (r : Int)), (1, .int .i64 (c : Int))]) (m := r - (i + 1)) ⟨rfl, rfl, rfl, rfl, trivial⟩ (by omega)
      ⟨i + 1, sv2, D3, F ++ [D2], by omega, hr3, by
        rw [List.take_add_one, hvi]
        exact hgi.snoc (n := i) (by rw [List.length_take, hr3.len.1]; omega) hrow2.len.2.1 hrow2 hel, rfl, uc, rfl, rfl⟩
  · have e : i = r := by omega
    subst e
    try refine run_s ?_
    rw [List.take_of_length_le (by rw [hrow.len.1]; exact Nat.le_refl _)] at hg
    exact sk_ret (D ++ F.flatten) sym rfl (.cons (.tmp rfl) .nil) uc sb (.inl rfl) ⟨⟨D, F, _, _, svs, rfl, rfl, hrow, hg⟩, uc⟩

theorem munit_co {n : Nat} (hn : n ≤ 100000) :
    Ct Tryz.prog 120 [.int .i64 (n : Int)] G U M fun v U' D => Go rO n n U' D v La.idm ∧ ULe U U' := by
  refine ct_of_st Tryz.func120 rfl rfl rfl rfl ?_
  repeat (first | refine run_S ?_ | refine w_box (fun _ => ?_) | refine w_al (fun _ => ?_))
  refine sl_call rfl rfl rfl rfl rfl rfl (fun _ => mblank_co hn hn) ?_
  rintro v1 U1 D1 hU1 ⟨⟨Do, F, p, cc, svs, rfl, rfl, hro, hg⟩, -⟩
  have hsl := hro.len.1
  rw [List.append_assoc]
  try refine run_s ?_
  refine st_loop (fun z E U' M' => ∃ (i : Nat) (F : List MH), i ≤ n ∧ Gs rO n U' svs F (fun a j => if a < i then La.idm a j else 0) ∧ E = [(10, .int .i64 (i : Int)), (3, .slice p n cc), (9, .int .i64 (n : Int))] ∧ ULe U1 U' ∧ M' = Do ++ (F.flatten ++ M) ∧ z = n - i) (n0 := n)
    (E0 := [(10, .int .i64 ((0 : Nat) : Int)), (3, .slice p n cc), (9, .int .i64 (n : Int))]) ⟨rfl, rfl, rfl, trivial⟩ ⟨0, F, by omega, by simpa using hg, rfl, uc, rfl, rfl⟩ ?_
  clear hg
  rintro z E U2 M' ⟨i, F, hi, hg, rfl, hU2, rfl, rfl⟩
  try refine run_s ?_
  refine st_dec rfl (fun h => ?_) (fun h => ?_)
  · have hin : i < n := by omega
    obtain ⟨q, c', vs, Di, hvi, hFi, hcc, hR, hel, hiF, hput⟩ := hg.put (i := i) (by omega)
    have rA := hro.at (U := U2) (M := Do ++ (F.flatten ++ M)) sb
    try refine run_s ?_
    refine st_drawM [6, 7] [0, 1, 2, 3, 4, 5, 6, 7] sym (by kernel_rfl) ?_
    try refine run_s ?_
    refine sl_y (yl_index sym rfl rfl rfl rfl rfl rfl (rA.lt hvi) (rA.get _ _ hvi).1) rfl rfl rfl rfl ?_; refine sl_y (yl_loadR1 sym rfl rfl rfl rfl rA hvi rfl) rfl rfl rfl rfl ?_
    try refine run_s ?_
    refine sl_call rfl rfl rfl rfl rfl rfl (fun _ => (qOf_ct (z := 1) (by decide) (by decide)).settle) ?_
    rintro v Uh1 D hU ⟨rfl, _, _, ⟨xh1, rfl, h1, -⟩, -, -, hs⟩
    replace h1 := h1.sett hs
    clear hs
    repeat (first | refine run_S ?_ | refine w_box (fun _ => ?_) | refine w_al (fun _ => ?_))
    refine w_addr (j := i) hin (hR.some (by omega)) ?_
    refine w_storeR (v := xh1.v) (X := Do ++ (((F.take i).flatten ++ (F.drop (i + 1)).flatten) ++ M)) hR (pick_perm (B := Do) (pickF hFi)) hin (fun D2 hr2 => ?_)
    refine sl_perm ?_ (pick_perm (B := Do) (putF hiF)).symm
    try refine run_s ?_
    exact sk_again (E' := [(10, .int .i64 ((i : Int) + 1)), (3, .slice p n cc), (9, .int .i64 (n : Int))]) (m := n - (i + 1)) ⟨rfl, rfl, rfl, trivial⟩ (by omega)
      ⟨i + 1, F.set i D2, by omega, hput Uh1 D2 _ _ uc hr2 (set_ok (fun k x hk hne => by
        have := (hel.up (U' := Uh1) kept_q uc) k x hk
        simp only [if_neg (Nat.lt_irrefl i)] at this
        simp only [if_pos (Nat.lt_succ_self i)]
        unfold La.idm
        rw [if_neg (Ne.symm hne)]; exact this) (by
        simp only [if_pos (Nat.lt_succ_self i)]
        unfold La.idm
        rw [if_pos rfl]; exact ⟨xh1, rfl, h1⟩)) (fun k hk => by
        funext j
        by_cases e : k < i
        · rw [if_pos e, if_pos (by omega)]
        · rw [if_neg e, if_neg (by omega)]), rfl, uc, rfl, rfl⟩
  · have e : i = n := by omega
    subst e
    try refine run_s ?_
    exact sk_ret (Do ++ F.flatten) sym rfl (.cons (.tmp rfl) .nil) uc sb (.inl rfl) ⟨⟨Do, F, _, _, svs, rfl, rfl, hro, hg.congr (n := i) hsl (fun _ _ _ _ h => h.len.1) (fun a j ha _ => if_pos ha)⟩, uc⟩

/-- Two matrices side by side. -/
def side (n : Nat) (A B : Nat → Nat → Rat) : Nat → Nat → Rat := fun i j => if j < n then A i j else B i (j - n)

theorem mbeside_co {m n k : Nat} {va vb : Value} {A B : Nat → Nat → Rat} (ha : Lg m n U M va A) (hb : Lg m k U M vb B) (hm : m ≤ 100000) (hn : n ≤ 100000) (hk : k ≤ 100000) :
    Ct Tryz.prog 152 [va, vb] G U M fun v U' D => Go rO m (n + k) U' D v (side n A B) ∧ ULe U U' := by
  obtain ⟨p1, c1, as1, rfl, -, ra, ea⟩ := ha
  obtain ⟨p2, c2, as2, rfl, -, rb, eb⟩ := hb
  refine ct_of_st Tryz.func152 rfl rfl rfl rfl ?_
  repeat (first | refine run_S ?_ | refine w_box (fun _ => ?_) | refine w_al (fun _ => ?_))
  refine sl_make (m := m) (n := m) sym rfl rfl rfl rfl rfl rfl rfl rfl rfl (Nat.le_refl m) (by omega) (by omega) rfl rfl rfl rfl (fun b2 => ?_)
  have hrow := rowO_make (e := TRs) (s := 1) (b := b2) (n := m) (z := .slice none 0 0) rfl (by omega)
  try refine run_s ?_
  refine st_loop (fun z E U' M' => ∃ (i : Nat) (svs : List Value) (D : MH) (F : List MH), i ≤ m ∧ RowO TRs 1 D (some ⟨b2, 0, none⟩) m m svs ∧ Gs rO (n + k) U' (svs.take i) F (side n A B) ∧ E = [(12, .int .i64 (i : Int)), (5, .slice (some ⟨b2, 0, none⟩) m m), (11, .int .i64 (m : Int)), (0, .slice p1 m c1), (1, .slice p2 m c2)] ∧ U = U' ∧
      M' = D ++ (F.flatten ++ M) ∧ z = m - i) (n0 := m)
    (E0 := [(12, .int .i64 ((0 : Nat) : Int)), (5, .slice (some ⟨b2, 0, none⟩) m m), (11, .int .i64 (m : Int)), (0, .slice p1 m c1), (1, .slice p2 m c2)]) ⟨rfl, rfl, rfl, rfl, rfl, trivial⟩ ⟨0, _, [(b2, _, _)], [], by omega, hrow, Gs.nil, rfl, rfl, rfl, rfl⟩ ?_
  clear hrow
  rintro z E U1 M' ⟨i, svs, D, F, hi, hrow, hg, rfl, rfl, rfl, rfl⟩
  try refine run_s ?_
  refine st_dec rfl (fun h => ?_) (fun h => ?_)
  · have him : i < m := by omega
    obtain ⟨v1, hv1⟩ := ra.at him
    obtain ⟨q1, d1, us1, rfl, hd1, r1, el1⟩ := ea _ _ hv1
    obtain ⟨v2, hv2⟩ := rb.at him
    obtain ⟨q2, d2, us2, rfl, hd2, r2, el2⟩ := eb _ _ hv2
    try refine run_s ?_
    refine st_drawM [12, 13, 14] [0, 1, 3, 4, 5, 6, 8, 9, 10, 11, 2, 7, 12, 13, 14] sym (by kernel_rfl) ?_
    try refine run_s ?_
    refine sl_y (yl_index sym rfl rfl rfl rfl rfl rfl ((ra.up uc sb).lt hv1) ((ra.up uc sb).get _ _ hv1).1) rfl rfl rfl rfl ?_; refine sl_y (yl_loadR1 sym rfl rfl rfl rfl (ra.up uc sb) hv1 rfl) rfl rfl rfl rfl ?_
    try refine run_s ?_
    refine sl_y (yl_index sym rfl rfl rfl rfl rfl rfl ((rb.up uc sb).lt hv2) ((rb.up uc sb).get _ _ hv2).1) rfl rfl rfl rfl ?_; refine sl_y (yl_loadR1 sym rfl rfl rfl rfl (rb.up uc sb) hv2 rfl) rfl rfl rfl rfl ?_
    refine w_bs0 (fun bo => ?_)
    refine w_app0 (r1.up (M' := (bo, .arr [], TR) :: (D ++ (F.flatten ++ M))) uc sb) (El.ones el1 fun _ _ h => one_q h) (fun p4 c4 D4 h4 => ?_)
    refine w_app h4 (List.Perm.refl _) (r2.up (M' := D4 ++ (bo, .arr [], TR) :: (D ++ (F.flatten ++ M))) uc sb) (El.ones el2 fun _ _ h => one_q h) (fun p5 c5 D5 h5 => ?_)
    refine w_addr (j := i) him rfl ?_
    refine w_storeR (X := (bo, .arr [], TR) :: (D5 ++ (F.flatten ++ M))) hrow pm him (fun D3 hr3 => ?_)
    refine sl_perm (M' := (bo, .arr [], TR) :: (D3 ++ ((F ++ [D5]).flatten ++ M))) ?_ pm
    refine sl_drop (M' := D3 ++ ((F ++ [D5]).flatten ++ M)) (List.sublist_cons_self ..) ?_
    have hsl := hrow.len.1
    have hvi : (svs.set i (.slice p5 (n + k) c5))[i]? = some (.slice p5 (n + k) c5) := List.getElem?_set_self (by omega)
    have hgi : Gs rO (n + k) U ((svs.set i (.slice p5 (n + k) c5)).take i) F (side n A B) := by rw [List.take_set_of_le (Nat.le_refl i)]; exact hg
    generalize svs.set i (.slice p5 (n + k) c5) = sv2 at hr3 hvi hgi
    try refine run_s ?_
    exact sk_again (E' := [(12, .int .i64 ((i : Int) + 1)), (5, .slice (some ⟨b2, 0, none⟩) m m), (11, .int .i64 (m : Int)), (0, .slice p1 m c1), (1, .slice p2 m c2)]) (m := m - (i + 1)) ⟨rfl, rfl, rfl, rfl, rfl, trivial⟩ (by omega)
      ⟨i + 1, sv2, D3, F ++ [D5], by omega, hr3, by
        rw [List.take_add_one, hvi]
        exact hgi.snoc (n := i) (by rw [List.length_take, hr3.len.1]; omega) h5.len.2.1 h5 (app_ok r1.len (el1.congr r1.len fun t ht => by unfold side; rw [if_pos ht]) (fun t x ht => by
          unfold side
          rw [if_neg (by omega), Nat.add_sub_cancel_left]; exact el2 t x ht)), rfl, rfl, rfl, rfl⟩
  · have e : i = m := by omega
    subst e
    try refine run_s ?_
    rw [List.take_of_length_le (by rw [hrow.len.1]; exact Nat.le_refl _)] at hg
    exact sk_ret (D ++ F.flatten) sym rfl (.cons (.tmp rfl) .nil) uc sb (.inl rfl) ⟨⟨D, F, _, _, svs, rfl, rfl, hrow, hg⟩, uc⟩

end Go.Proofs.YtocjmbilepbokaaGreat

/- Walks of matrix: kernels. -/
namespace Go.Proofs.YtocjmbilepbokaaGreat
open Go.Hp
variable {G : World} {U U' : UH} {M M' : MH}

theorem side_aug (n : Nat) (T : Nat → Nat → Rat) : side n T La.idm = La.aug n T := rfl
theorem aug_sz {m n b : Nat} {T : Nat → Nat → Rat} (hb1 : 1 ≤ b) (hs : ∀ i j, i < m → j < n → Szq (T i j) b) : ∀ i j, i < m → j < n + m → Szq (La.aug n T i j) b := fun i j hi hj => by
  unfold La.aug
  split
  · rename_i h; exact hs i j hi h
  · unfold La.idm
    split
    · exact szq_int1.mono hb1
    · exact szq_int0.mono hb1

/-- [T|I]. -/
theorem maug_step {m n b : Nat} (hm1 : m ≤ 1000) (hn1 : n ≤ 1000) (_ : b ≤ 1000000000) : m * n ≤ 1000 * 1000 ∧ m * (n + m) ≤ 1000 * 2000 := ⟨Nat.mul_le_mul hm1 hn1, Nat.mul_le_mul hm1 (by omega)⟩

theorem mkernel_cog {m n b : Nat} {vm : Value} {T : Nat → Nat → Rat} (hm : Vm (Wq b) m n U vm T) (hb1 : 1 ≤ b) (hg1 : 1 + m * La.gro b m ≤ 1000000000) (hgW : La.gro b m ≤ 1000000000) (hm1 : m ≤ 1000) (hn1 : n ≤ 1000) :
    Ct Tryz.prog 126 [vm] G U M fun v U' D => ∃ (s : Nat) (K : Nat → Nat → Rat) (q : Nat → Nat) (vg vp : Value) (D1 D2 : MH), v = .tuple #[vg, vp] ∧ Go rW s m U' D1 vg K ∧ Lo Vi TInt 1 s U' D2 vp q ∧ D = D1 ++ D2 ∧ ULe U U' ∧
      La.KerOf m n s T K q ∧ (∀ i j, i < s → j < m → Szq (K i j) (La.gro b m)) ∧ ∃ (r : Nat) (R : Nat → Nat → Rat) (p : Nat → Nat), EchOf m n r T R p ∧ s + r = m := by
  have hb : b ≤ 1000000000 := Nat.le_trans (La.gro_le (k := b) (Nat.zero_le m)) hgW
  obtain ⟨hmn, hmn2⟩ := maug_step hm1 hn1 hb
  have sT : ∀ i j, i < m → j < n → Szq (T i j) b := fun i j hi hj => hm.sz hb1 hi hj
  have hm2 := hm
  obtain ⟨_, rfl, pa, cm, ms, rfl, -⟩ := hm
  refine ct_of_st Tryz.func126 rfl rfl rfl rfl ?_
  repeat (first | refine run_S ?_ | refine w_box (fun _ => ?_) | refine w_al (fun _ => ?_))
  rename_i b1
  refine st_draw [0, 2, 3, 1, 4, 5, 6] sym (by kernel_rfl) ?_
  try refine run_s ?_
  refine sl_call rfl rfl rfl rfl rfl rfl (fun _ => mload_co (kept_m kept_w _ _ _ _ uc hm2) (by omega) (by omega) (by omega) (by omega)) ?_
  rintro v1 U1 D1 hU1 ⟨hgl, -⟩
  try refine run_s ?_
  refine sl_call rfl rfl rfl rfl rfl rfl (fun _ => munit_co (n := m) (by omega)) ?_
  rintro v2 U2 D2 hU2 ⟨hgu, -⟩
  try refine run_s ?_
  have hga : Lg m n U2 (D2 ++ (D1 ++ ((b1, .var (.agg #[.int .i64 (m : Int), .int .i64 (n : Int), .slice pa (m * n) cm]), TM) :: M))) v1 T := (hgl.w.lg (M := D2 ++ (D1 ++ ((b1, .var (.agg #[.int .i64 (m : Int), .int .i64 (n : Int), .slice pa (m * n) cm]), TM) :: M))) sb).up uc (List.Sublist.refl _)
  have hgb : Lg m m U2 (D2 ++ (D1 ++ ((b1, .var (.agg #[.int .i64 (m : Int), .int .i64 (n : Int), .slice pa (m * n) cm]), TM) :: M))) v2 La.idm := hgu.w.lg (List.sublist_append_left ..)
  refine sl_call rfl rfl rfl rfl rfl rfl (fun _ => mbeside_co (hga.up uc sb) (hgb.up uc sb) (by omega) (by omega) (by omega)) ?_
  rintro v3 U3 D3 hU3 ⟨hgd, -⟩
  rw [side_aug] at hgd
  refine sl_perm (M' := (b1, .var (.agg #[.int .i64 (m : Int), .int .i64 (n : Int), .slice pa (m * n) cm]), TM) :: (D3 ++ (D2 ++ (D1 ++ M)))) ?_ pm
  refine sl_drop (M' := (b1, .var (.agg #[.int .i64 (m : Int), .int .i64 (n : Int), .slice pa (m * n) cm]), TM) :: (D3 ++ M)) sbk ?_
  repeat (first | refine run_S ?_ | refine w_box (fun _ => ?_) | refine w_al (fun _ => ?_))
  refine sl_callC rfl rfl rfl rfl rfl rfl ((mreduce_cxg (X := (b1, .var (.agg #[.int .i64 (m : Int), .int .i64 (n : Int), .slice pa (m * n) cm]), TM) :: M) (cl := n) hgd.w (aug_sz hb1 sT) (Nat.le_add_right n m) hb1 (.inl (Nat.le_refl m)) hg1 hgW (by omega) (by omega)).perm pm) ?_
  rintro v4 U4 M4 hU4 ⟨-, r, R, p, vp, xd, d, D', Dp, rfl, rfl, hg4, ⟨pp, cp, pvs, rfl, hrp, ep⟩, hd, hred, -, hsz, hsd⟩
  refine sl_perm (M' := (b1, .var (.agg #[.int .i64 (m : Int), .int .i64 (n : Int), .slice pa (m * n) cm]), TM) :: (D' ++ (Dp ++ M))) ?_ pm
  have hrm := hred.le
  obtain ⟨Do, F, pg, cg, svs, rfl, rfl, hro, hgs⟩ := hg4
  have hcg := hro.len
  have hFl : F.length = m := by rw [← hgs.1]; exact hcg.1
  repeat (first | refine run_S ?_ | refine w_box (fun _ => ?_) | refine w_al (fun _ => ?_))
  rename_i b6
  refine w_sFrom (lo := r) (n := m) hrm hcg.2.1 ?_
  have rd0 := (hro.at (U := U4) (M := Do) (List.Sublist.refl _)).drop hrm hcg.2.1
  generalize (if cg = r then pg else pg.map (·.add (r * 1))) = p2 at rd0 ⊢
  repeat (first | refine run_S ?_ | refine w_box (fun _ => ?_) | refine w_al (fun _ => ?_))
  refine st_perm (M := (b6, .var xd.v, TR) :: (b1, .var (.agg #[.int .i64 (m : Int), .int .i64 (n : Int), .slice pa (m * n) cm]), TM) :: ((Do ++ F.flatten) ++ (Dp ++ M))) (M' := (b6, .var xd.v, TR) :: (b1, .var (.agg #[.int .i64 (m : Int), .int .i64 (n : Int), .slice pa (m * n) cm]), TM) :: ([] ++ (Do ++ (F.flatten ++ (Dp ++ M))))) pm ?_
  refine st_loop (fun z E U' M' => ∃ (i : Nat) (pk : Option Addr) (ck : Nat) (kvs : List Value) (Dk : MH), i ≤ m - r ∧ RowO TRs 1 Dk pk i ck kvs ∧ Gs rW m U' kvs ((F.drop r).take i) (fun a j => R (r + a) (n + j)) ∧
      E = [(30, .int .i64 (i : Int)), (28, .slice p2 (m - r) (cg - r)), (29, .int .i64 ((m - r : Nat) : Int)), (7, .slice pk i ck), (1, .pointer (some ⟨b1, 0, none⟩))] ∧ U4 = U' ∧
      M' = (b6, .var xd.v, TR) :: (b1, .var (.agg #[.int .i64 (m : Int), .int .i64 (n : Int), .slice pa (m * n) cm]), TM) :: (Dk ++ (Do ++ (F.flatten ++ (Dp ++ M)))) ∧ z = m - r - i) (n0 := m - r)
    (E0 := [(30, .int .i64 ((0 : Nat) : Int)), (28, .slice p2 (m - r) (cg - r)), (29, .int .i64 ((m - r : Nat) : Int)), (7, .slice none 0 0), (1, .pointer (some ⟨b1, 0, none⟩))]) ⟨rfl, rfl, rfl, rfl, rfl, trivial⟩ ⟨0, none, 0, [], [], by omega, RowO.nil, Gs.nil, rfl, rfl, rfl, rfl⟩ ?_
  rintro z E U5 M' ⟨i, pk, ck, kvs, Dk, hi, hrk, hgk, rfl, rfl, rfl, rfl⟩
  try refine run_s ?_
  refine st_dec rfl (fun h => ?_) (fun h => ?_)
  · have hir : r + i < m := by omega
    have rd := rd0.up (U' := U4) (M' := (b6, .var xd.v, TR) :: (b1, .var (.agg #[.int .i64 (m : Int), .int .i64 (n : Int), .slice pa (m * n) cm]), TM) :: (Dk ++ (Do ++ (F.flatten ++ (Dp ++ M))))) uc sb
    have hvs : r + i < svs.length := by rw [hcg.1]; exact hir
    have hv := List.getElem?_eq_getElem hvs
    have hFi := List.getElem?_eq_getElem (show r + i < F.length by omega)
    generalize svs[r + i] = v5 at hv
    generalize F[r + i] = Di at hFi
    obtain ⟨q, c', vs, rfl, hcc, hR, hel⟩ := hgs.2 _ _ _ hv hFi
    have hvd : (svs.drop r)[i]? = some (.slice q (n + m) c') := by rw [List.getElem?_drop]; exact hv
    try refine run_s ?_
    refine sl_y (yl_index sym rfl rfl rfl rfl rfl rfl (rd.lt hvd) (rd.get _ _ hvd).1) rfl rfl rfl rfl ?_; refine sl_y (yl_loadR1 sym rfl rfl rfl rfl rd hvd rfl) rfl rfl rfl rfl ?_
    try refine run_s ?_
    refine w_sFrom (lo := n) (n := n + m) (by omega) hcc ?_
    have hpart := hR.part (lo := n) (hi := n + m) (by omega) (Nat.le_refl _) hcc
    have e1 : n + m - n = m := by omega
    rw [e1] at hpart ⊢
    generalize (if c' = n then q else q.map (·.add (n * 4))) = q2 at hpart ⊢
    refine w_push hrk (perm2 (D := _)).symm (fun bhr2 phr2 chr2 Dhr2 hr2 => ?_)
    refine sl_perm ?_ (perm2 (D := Dhr2))
    repeat (first | refine run_S ?_ | refine w_box (fun _ => ?_) | refine w_al (fun _ => ?_))
    have hnext : (F.drop r).take i ++ [Di] = (F.drop r).take (i + 1) := by rw [List.take_add_one, List.getElem?_drop, hFi]; rfl
    refine sk_again (E' := [(30, .int .i64 ((i : Int) + 1)), (28, .slice p2 (m - r) (cg - r)), (29, .int .i64 ((m - r : Nat) : Int)), (7, .slice phr2 (i + 1) chr2), (1, .pointer (some ⟨b1, 0, none⟩))]) (m := m - r - (i + 1)) ⟨rfl, rfl, rfl, rfl, rfl, trivial⟩ (by omega)
      ⟨i + 1, phr2, chr2, _, Dhr2, by omega, hr2, ?_, rfl, rfl, rfl, rfl⟩
    rw [← hnext]
    refine hgk.snoc (n := i) hrk.len.1 (by omega) hpart (fun k x hk => ?_)
    rw [List.getElem?_take] at hk
    split at hk
    · rw [List.getElem?_drop] at hk
      exact hel _ _ hk
    · cases hk
  · have e : i = m - r := by omega
    subst e
    have htk : (F.drop r).take (m - r) = F.drop r := List.take_of_length_le (by rw [List.length_drop]; omega)
    rw [htk] at hgk
    have hFs : F.flatten = (F.take r).flatten ++ (F.drop r).flatten := by rw [← List.flatten_append, List.take_append_drop]
    try refine run_s ?_
    rw [hFs]
    have hga : La.gro (La.gro b r) (m - r) = La.gro b m := by rw [La.gro_add, show r + (m - r) = m by omega]
    refine sl_callC rfl rfl rfl rfl rfl rfl ((mreduce_cxg (m := m - r) (n := m) (k := La.gro b r) (D := Dk ++ (F.drop r).flatten) (X := (b6, .var xd.v, TR) :: (b1, .var (.agg #[.int .i64 (m : Int), .int .i64 (n : Int), .slice pa (m * n) cm]), TM) :: (Do ++ ((F.take r).flatten ++ (Dp ++ M)))) (cl := m) ⟨Dk, F.drop r, pk, ck, kvs, rfl, rfl, hrk, hgk⟩ (fun a j ha hj => hsz (r + a) (n + j) (by omega) (by omega)) (Nat.le_refl m) (Nat.le_trans hb1 (La.gro_ge b r)) (.inl (Nat.le_refl _)) (by rw [hga]; exact Nat.le_trans (Nat.add_le_add_left (Nat.mul_le_mul_right _ (Nat.sub_le m r)) 1) hg1) (by rw [hga]; exact hgW) (by omega) (by omega)).perm pm) ?_
    rintro v6 U6 M6 hU6 ⟨-, r2, R2, q2, vp2, xd2, d2, D2', Dp2, rfl, rfl, hg6, ⟨pp2, cp2, pvs2, rfl, hrp2, ep2⟩, hd2, hred2, hrw2, hsz2, hsd2⟩
    have e2 := hred2.echof
    obtain ⟨hk, hr2m⟩ := La.red_kerof hred e2.ech e2.same
    subst hr2m
    refine sl_perm (M' := (b6, .var xd.v, TR) :: (b1, .var (.agg #[.int .i64 (m : Int), .int .i64 (n : Int), .slice pa (m * n) cm]), TM) :: (D2' ++ (Dp2 ++ (Do ++ ((F.take r).flatten ++ (Dp ++ M)))))) ?_ pm
    obtain ⟨Do2, F2, pg2, cg2, svs2, rfl, hge, hro2, hgs2⟩ := hg6
    obtain ⟨rfl, -, rfl⟩ := Value.slice.inj hge
    repeat (first | refine run_S ?_ | refine w_box (fun _ => ?_) | refine w_al (fun _ => ?_))
    obtain ⟨l1, l2⟩ := La.red_left hred
    exact sk_ret ((Do2 ++ F2.flatten) ++ Dp2) sym rfl (.cons (.tmp rfl) (.cons (.tmp rfl) .nil)) uc sb (.inl rfl) ⟨m - r, R2, q2, _, _, Do2 ++ F2.flatten, Dp2, rfl, ⟨Do2, F2, _, _, svs2, rfl, rfl, hro2, hgs2⟩, ⟨pp2, cp2, pvs2, rfl, hrp2, ep2⟩, rfl, uc, hk,
      fun a j ha hj => (hsz2 a j ha hj).mono (by rw [← hga]; exact La.gro_le hrw2), r, R, p, ⟨l1, l2, hrm⟩, by omega⟩

end Go.Proofs.YtocjmbilepbokaaGreat

/- Walks of matrix: Kernel and Inverse. -/
namespace Go.Proofs.YtocjmbilepbokaaGreat
open Go.Hp
variable {G : World} {U U' : UH} {M M' : MH}

theorem mKernel_cog {m n b : Nat} {vm : Value} {T : Nat → Nat → Rat} (hm : Vm (Wq b) m n U vm T) (hb1 : 1 ≤ b) (hg1 : 1 + m * La.gro b m ≤ 1000000000) (hgW : La.gro b m ≤ 1000000000) (hm1 : m ≤ 1000) (hn1 : n ≤ 1000) :
    Ct Tryz.prog 96 [vm] G U M fun v U' D => ∃ (s : Nat) (K : Nat → Nat → Rat) (q : Nat → Nat) (vK : Value), v = .tuple #[vK, .int .i64 0] ∧ Vmo s m U' D vK K ∧ ULe U U' ∧
      La.KerOf m n s T K q ∧ (∀ i j, i < s → j < m → Szq (K i j) (La.gro b m)) ∧ ∃ (r : Nat) (R : Nat → Nat → Rat) (p : Nat → Nat), EchOf m n r T R p ∧ s + r = m := by
  have hmn : m * n ≤ 1000 * 1000 := Nat.mul_le_mul hm1 hn1
  have hm2 := hm
  obtain ⟨_, rfl, pa, cm, ms, rfl, -⟩ := hm
  refine ct_of_st Tryz.func96 rfl rfl rfl rfl ?_
  repeat (first | refine run_S ?_ | refine w_box (fun _ => ?_) | refine w_al (fun _ => ?_))
  rename_i b1 b2
  refine sl_call rfl rfl rfl rfl rfl rfl (fun _ => mValid_ct (r := (m : Int)) (c := (n : Int)) (n := m * n) (p := pa) (cc := cm) (by omega)) ?_
  rintro v U' D hU ⟨rfl, rfl, rfl⟩
  repeat (first | refine run_S ?_ | refine w_box (fun _ => ?_) | refine w_al (fun _ => ?_))
  rw [decide_eq_true (vld_of (by omega) (by omega))]
  repeat (first | refine run_S ?_ | refine w_box (fun _ => ?_) | refine w_al (fun _ => ?_))
  refine sl_call rfl rfl rfl rfl rfl rfl (fun _ => mkernel_cog (kept_m kept_w _ _ _ _ uc hm2) hb1 hg1 hgW hm1 hn1) ?_
  rintro v1 U1 D hU1 ⟨s, K, q, vg, vp, D1, D2, rfl, hg, ⟨pp, cp, pvs, rfl, hrp, ep⟩, rfl, -, hk, hsz, hr⟩
  have hsm := hk.ech.le_n
  have hsm2 : s * m ≤ 1000 * 1000 := Nat.mul_le_mul (by omega) hm1
  refine sl_perm (M' := (b2, .var (.agg #[.int .i64 0, .int .i64 0, .slice none 0 0]), TM) :: (b1, .var (.agg #[.int .i64 (m : Int), .int .i64 (n : Int), .slice pa (m * n) cm]), TM) :: (D1 ++ (D2 ++ M))) ?_ pm
  repeat (first | refine run_S ?_ | refine w_box (fun _ => ?_) | refine w_al (fun _ => ?_))
  refine sl_call rfl rfl rfl rfl rfl rfl (fun _ => mstore_ct (hg.lg (M := (b2, .var (.agg #[.int .i64 0, .int .i64 0, .slice none 0 0]), TM) :: (b1, .var (.agg #[.int .i64 (m : Int), .int .i64 (n : Int), .slice pa (m * n) cm]), TM) :: (D1 ++ (D2 ++ M))) sb |>.up uc sb) (by omega) (by omega) (by omega)) ?_
  rintro v4 U4 D4 hU4 ⟨⟨_, rfl, p4, c4, vs4, rfl, h4, e4⟩, -⟩
  refine sl_perm ?_ (perm2 (D := D4))
  repeat (first | refine run_S ?_ | refine w_box (fun _ => ?_) | refine w_al (fun _ => ?_))
  exact sk_ret D4 sym rfl (.cons (.cell 0 rfl rfl rfl) (.cons (.tmp rfl) .nil)) uc sb (.inl rfl) ⟨s, K, q, _, rfl, ⟨_, rfl, p4, c4, vs4, rfl, h4, e4⟩, uc, hk, hsz, hr⟩

theorem mKernel_ctg {m n b : Nat} {vm : Value} {T : Nat → Nat → Rat} (hm : Vm (Wq b) m n U vm T) (hb1 : 1 ≤ b) (hg1 : 1 + m * La.gro b m ≤ 1000000000) (hgW : La.gro b m ≤ 1000000000) (hm1 : m ≤ 1000) (hn1 : n ≤ 1000) :
    Ct Tryz.prog 96 [vm] G U M fun v U' D => ∃ (s : Nat) (K : Nat → Nat → Rat) (q : Nat → Nat) (vK : Value), v = .tuple #[vK, .int .i64 0] ∧ Vm Vq s m U' vK K ∧ D = [] ∧
      La.KerOf m n s T K q ∧ (∀ i j, i < s → j < m → Szq (K i j) (La.gro b m)) ∧ ∃ (r : Nat) (R : Nat → Nat → Rat) (p : Nat → Nat), EchOf m n r T R p ∧ s + r = m :=
  (mKernel_cog hm hb1 hg1 hgW hm1 hn1).settle.mono fun _ _ _ _ ⟨h1, _, _, ⟨s, K, q, vK, h2, ⟨a, h3, h9⟩, _, h6⟩, _, h7, h8⟩ =>
    ⟨s, K, q, vK, h2, ⟨a, h3, h9.sett kept_q h7 h8⟩, h1, h6⟩

end Go.Proofs.YtocjmbilepbokaaGreat
