/- Walks of the reference of layer 9: Solve. -/
import Derived.Test.YtcfgogamamdipaaGreatB109
namespace Go.Proofs.YtcfgogamamdipaaGreat
open Go.Hp
variable {G : World} {U U' : UH} {M M' : MH}

/-- A raw row is cleared. -/
theorem m9clearedW_ct {n c b g : Nat} {vx vp : Value} {f P : Nat → Rat} (hx : Wr b n U vx f) (hp : Vr n U vp P) (hs2 : ∀ j, j < n → Szq (P j) g) (hc : c < n) (hb1 : 1 ≤ b) (hb : 2 * b + g + 1 ≤ 10000000000) (hn : n ≤ 1000000) :
    Ct Tryz.prog 89 [vx, vp, .int .i64 (c : Int)] G U M fun v U' D => Wr (2 * b + g + 1) n U' v (La.clr f P c) ∧ D = [] := by
  have hs : ∀ j, j < n → Szq (f j) b := fun j hj => Ls.sz (show Ls (Wq b) 4 n U [] vx f from hx) hb1 hj
  obtain ⟨px, cx, xs, rfl, hcx, rx, ex⟩ := id hx
  obtain ⟨v1, hv1⟩ := rx.at hc
  obtain ⟨x1, rfl, hx1, hn1⟩ := ex _ _ hv1
  refine ct_of_st Tryz.func89 rfl rfl rfl rfl ?_
  repeat (first | refine run_S ?_ | refine w_box (fun _ => ?_) | refine w_al (fun _ => ?_))
  refine sl_y (yl_index sym rfl rfl rfl rfl rfl rfl ((rx.up uc sb).lt hv1) ((rx.up uc sb).get _ _ hv1).1) rfl rfl rfl rfl ?_; refine sl_y (yl_loadRs sym rfl rfl rfl rfl rfl (rx.up uc sb) hv1) rfl rfl rfl rfl ?_
  refine sl_call rfl rfl rfl rfl rfl rfl (fun _ => rqSign_ct (hx1.up uc sb) (by omega)) ?_
  rintro v U' D hU ⟨rfl, rfl, rfl⟩
  repeat (first | refine run_S ?_ | refine w_box (fun _ => ?_) | refine w_al (fun _ => ?_))
  refine st_eq rfl (fun hq => ?_) (fun hq => ?_)
  · repeat (first | refine run_S ?_ | refine w_box (fun _ => ?_) | refine w_al (fun _ => ?_))
    refine sk_ret [] sym rfl (.cons (.tmp rfl) .nil) uc sb (.inl rfl) ⟨Ls.congr (Ls.mono (show Ls (Wq b) 4 n _ [] _ f from kept_wr _ _ _ _ uc hx) (by omega)) fun j _ => ?_, rfl⟩
    show f j = f j + -(f c) * P j
    rw [rat_num_zero.1 (Int.sign_eq_zero_iff_zero.1 hq)]
    simp [Rat.zero_mul, Rat.add_zero]
  · repeat (first | refine run_S ?_ | refine w_box (fun _ => ?_) | refine w_al (fun _ => ?_))
    refine sl_y (yl_index sym rfl rfl rfl rfl rfl rfl ((rx.up uc sb).lt hv1) ((rx.up uc sb).get _ _ hv1).1) rfl rfl rfl rfl ?_; refine sl_y (yl_loadRs sym rfl rfl rfl rfl rfl (rx.up uc sb) hv1) rfl rfl rfl rfl ?_
    refine sl_call rfl rfl rfl rfl rfl rfl (fun _ => rqNeg_ct (hx1.up uc sb) (by omega)) ?_
    rintro v Uh2 D hU ⟨xh2, rfl, h2, rfl⟩
    repeat (first | refine run_S ?_ | refine w_box (fun _ => ?_) | refine w_al (fun _ => ?_))
    refine sl_call rfl rfl rfl rfl rfl rfl (fun _ => (m9Combine_ct (b := b + g) (Ls.mono (Ls.up (M' := _) hx kept_w uc sb) (by omega)) (h2.rep.up uc sb) (h2.le ((hs c hc).neg.mono (Nat.le_add_right b g)) (Nat.le_refl _)) ((hp.ls uc).toW fun j hj => (hs2 j hj).mono (by omega)) (by omega) (by omega) (by omega)).setl kept_q) ?_
    rintro v U4 D hU ⟨h4, rfl⟩
    rw [List.nil_append]
    repeat (first | refine run_S ?_ | refine w_box (fun _ => ?_) | refine w_al (fun _ => ?_))
    exact sk_ret [] sym rfl (.cons (.tmp rfl) .nil) uc sb (.inl rfl) ⟨Ls.toW (by exact h4) fun j hj => ((hs j hj).add ((hs c hc).neg.mul (hs2 j hj))).mono (by omega), rfl⟩

theorem szq_intm : Szq (((-1 : Int) : Rat)) 1 := ⟨by unfold Sz; decide, by unfold Sz; decide⟩

theorem m9Solve_ct {m n b bv : Nat} {vm vb : Value} {T : Nat → Nat → Rat} {f : Nat → Rat} (hm : Vm (Wq b) m n U vm T) (hv : Ls (Wq bv) 4 n U [] vb f) (hb1 : 1 ≤ b) (hbv : 1 ≤ bv) (hg : La.gro b m ≤ 1000000000) (hd : La.dbl (La.gro b m) bv m ≤ 3000000000) (hm1 : m ≤ 1000) (hn1 : n ≤ 1000) :
    Ct Tryz.prog 44 [vm, vb] G U M fun v U' D => ((∀ y, ¬ La.Sol m n T f y) → v = .tuple #[.slice none 0 0, .bool false]) ∧ ((∃ y, La.Sol m n T f y) → ∃ (X : Nat → Rat) (vx : Value), v = .tuple #[vx, .bool true] ∧ Ls Vq 4 m U' [] vx X ∧ La.SolOf m n T f X ∧ ∀ i, i < m → Szq (X i) (La.dbl (La.gro b m) bv m + 3)) ∧ D = [] := by
  have hmn : m * n ≤ 1000 * 1000 := Nat.mul_le_mul hm1 hn1
  have hb : b ≤ 1000000000 := Nat.le_trans (La.gro_le (k := b) (Nat.zero_le m)) hg
  have sT : ∀ i j, i < m → j < n → Szq (T i j) b := fun i j hi hj => hm.sz hb1 hi hj
  have sf : ∀ j, j < n → Szq (f j) bv := fun j hj => hv.sz hbv hj
  have hm2 := hm
  obtain ⟨_, rfl, pa, cm, ms, rfl, -⟩ := hm
  obtain ⟨pb, cb, bs, rfl, hcb, rb, eb⟩ := hv
  refine ct_of_st Tryz.func44 rfl rfl rfl rfl ?_
  repeat (first | refine run_S ?_ | refine w_box (fun _ => ?_) | refine w_al (fun _ => ?_))
  rename_i b2
  refine sl_call rfl rfl rfl rfl rfl rfl (fun _ => m9Rows_co (kept_m kept_w _ _ _ _ uc hm2) (by omega) (by omega) (by omega) (by omega)) ?_
  rintro v1 U1 D1 hU1 ⟨⟨Do, F, pg, cg, svs, rfl, rfl, hro, hgs⟩, -⟩
  refine sl_perm (M' := (b2, .var (.agg #[.int .i64 (m : Int), .int .i64 (n : Int), .slice pa (m * n) cm]), TM) :: (Do ++ (F.flatten ++ M))) ?_ pm
  try refine run_s ?_
  refine st_loop (fun z E U' M' => ∃ (i : Nat) (svs : List Value) (F : List MH) (Do : MH), i ≤ m ∧ RowO TRs 1 Do pg m cg svs ∧ (∀ k v, k < i → svs[k]? = some v → Vr (n + m) U' v (La.aug n T k)) ∧ Gs rO n U' (svs.drop i) F (fun k => T (i + k)) ∧ E = [(7, .int .i64 (i : Int)), (6, .slice pg m cg), (1, .slice pb n cb), (2, .pointer (some ⟨b2, 0, none⟩))] ∧ ULe U1 U' ∧ M' = (b2, .var (.agg #[.int .i64 (m : Int), .int .i64 (n : Int), .slice pa (m * n) cm]), TM) :: (Do ++ (F.flatten ++ M)) ∧ z = m - i) (n0 := m)
    (E0 := [(7, .int .i64 ((0 : Nat) : Int)), (6, .slice pg m cg), (1, .slice pb n cb), (2, .pointer (some ⟨b2, 0, none⟩))]) ⟨rfl, rfl, rfl, rfl, trivial⟩ ⟨0, svs, F, Do, by omega, hro, (fun k v h => absurd h (Nat.not_lt_zero k)), by simp only [Nat.zero_add, List.drop_zero]; exact hgs, rfl, uc, rfl, rfl⟩ ?_
  clear hro hgs
  rintro z E U2 M' ⟨i, svs, F, Do, hi, hro, hN, hgs, rfl, hU2, rfl, rfl⟩
  have hsl := hro.len.1
  try refine run_s ?_
  refine st_dec rfl (fun h => ?_) (fun h => ?_)
  · have him : i < m := by omega
    obtain ⟨q, c', vs, Di, hv, hF, hcc, hR, hel, hFl, -⟩ := hgs.put (i := 0) (by rw [List.length_drop]; omega)
    obtain ⟨F, rfl⟩ : ∃ F', F = Di :: F' := by
      cases F with
      | nil => simp at hF
      | cons a l => simp at hF; exact ⟨l, by rw [hF]⟩
    rw [List.getElem?_drop, Nat.add_zero] at hv
    have rA := hro.at (U := U2) (M := (b2, .var (.agg #[.int .i64 (m : Int), .int .i64 (n : Int), .slice pa (m * n) cm]), TM) :: (Do ++ ((Di :: F).flatten ++ M))) sb
    try refine run_s ?_
    refine st_drawM [10, 11, 12] [0, 1, 2, 3, 4, 5, 6, 7, 8, 9, 10, 11, 12] sym (by kernel_rfl) ?_
    try refine run_s ?_
    refine sl_y (yl_index sym rfl rfl rfl rfl rfl rfl (rA.lt hv) (rA.get _ _ hv).1) rfl rfl rfl rfl ?_; refine sl_y (yl_loadR1 sym rfl rfl rfl rfl rA hv rfl) rfl rfl rfl rfl ?_
    try refine run_s ?_
    refine sl_call rfl rfl rfl rfl rfl rfl (fun _ => m9Unit_ct (n := m) (i := i) (by omega) him) ?_
    rintro v3 U3 D3 hU3 ⟨⟨pu, cu, us, rfl, hru, hel3⟩, -⟩
    try refine run_s ?_
    refine w_app (X := D3 ++ ((b2, .var (.agg #[.int .i64 (m : Int), .int .i64 (n : Int), .slice pa (m * n) cm]), TM) :: (Do ++ (F.flatten ++ M)))) hR pm (hru.at sb) (El.ones hel3 fun _ _ h => one_q h) (fun p4 c4 D4 hr4 => ?_)
    try refine run_s ?_
    refine w_addr (j := i) him (hro.some (by omega)) ?_
    refine w_storeR (X := (b2, .var (.agg #[.int .i64 (m : Int), .int .i64 (n : Int), .slice pa (m * n) cm]), TM) :: (D4 ++ (D3 ++ (F.flatten ++ M)))) hro pm him (fun D5 hr5 => ?_)
    refine sl_drop (M' := D5 ++ ((b2, .var (.agg #[.int .i64 (m : Int), .int .i64 (n : Int), .slice pa (m * n) cm]), TM) :: (D4 ++ (F.flatten ++ M)))) sbk ?_
    refine sl_perm (M' := D4 ++ ((b2, .var (.agg #[.int .i64 (m : Int), .int .i64 (n : Int), .slice pa (m * n) cm]), TM) :: (D5 ++ (F.flatten ++ M)))) ?_ pm
    try refine run_s ?_
    refine sk_settleAll fun U4 hU4 hs4 => ?_
    refine sk_again (E' := [(7, .int .i64 ((i : Int) + 1)), (6, .slice pg m cg), (1, .slice pb n cb), (2, .pointer (some ⟨b2, 0, none⟩))]) (m := m - (i + 1)) ⟨rfl, rfl, rfl, rfl, trivial⟩ (by omega)
      ⟨i + 1, _, F, D5, by omega, hr5, (fun k v hk hv => ?_), ?_, rfl, uc, rfl, rfl⟩
    · by_cases ek : k = i
      · subst ek
        rw [List.getElem?_set_self (by omega)] at hv
        cases hv
        refine ⟨p4, c4, _, rfl, hr4.len.2.1, hr4.sett hs4, app_ok (g := La.aug n T k) hR.len.1 ?_ ?_⟩
        · exact (El.congr hel hR.len.1 fun j hj => (La.aug_l hj).symm).up kept_q uc
        · intro t x ht
          rw [La.aug_r]
          have h5 := kept_q _ _ _ _ (show ULe U3 U4 from uc) (hel3 t x ht)
          simp only at h5
          unfold La.idm
          by_cases e5 : t = k
          · rw [if_pos e5] at h5; rw [if_pos e5.symm]; exact h5
          · rw [if_neg e5] at h5; rw [if_neg (Ne.symm e5)]; exact h5
      · rw [List.getElem?_set_ne (Ne.symm ek)] at hv
        exact kept_r _ _ _ _ uc (hN k v (by omega) hv)
    · have h6 := hgs.tail
      rw [List.tail_drop] at h6
      rw [List.drop_set_of_lt (by omega)]
      refine Gs.cong2 (h6.up uc) fun k => ?_
      rw [show i + (k + 1) = i + 1 + k by omega]
  have e : i = m := by omega
  subst e
  rw [List.drop_of_length_le (by omega)] at hgs
  have hF0 : F = [] := List.eq_nil_of_length_eq_zero (by rw [← hgs.1]; rfl)
  subst hF0
  have hLs : Ls (Vr (n + i)) 1 i U2 Do (.slice pg i cg) (La.aug n T) :=
    ⟨pg, cg, svs, rfl, hro.len.2.1, hro.at (List.Sublist.refl _), fun k v hv => hN k v (by rw [← hsl]; exact (List.getElem?_eq_some_iff.1 hv).1) hv⟩
  try refine run_s ?_
  refine sl_call rfl rfl rfl rfl rfl rfl (fun _ => m9Reduce_ct (k := b) (n := n + i) (Ls.up (M' := _) hLs kept_r uc sb) (aug_sz hb1 sT) hb1 hg (by omega) (by omega)) ?_
  rintro v3 U3 D hU3 ⟨r, R, p, vR, vp, rfl, h3, h4, rfl, hE, hS, -, hsz⟩
  rw [List.nil_append]
  obtain ⟨s, hsr, hp1, hp2⟩ := La.split_pivots (n := n) hE.mono
  obtain ⟨-, -, -, rfl⟩ := La.kern_ref hE hS hsr hp1 hp2
  obtain ⟨pR, cR, rs, rfl, hcR, rR, eR⟩ := h3
  obtain ⟨pp, cp, ps, rfl, hcp, rp, ep⟩ := h4
  refine sl_drop (M' := (b2, .var (.agg #[.int .i64 (r : Int), .int .i64 (n : Int), .slice pa (r * n) cm]), TM) :: M) sbk ?_
  try refine run_s ?_
  refine st_drawM [5, 6, 7] [1, 3, 4, 0, 2, 5, 6, 7] sym (by kernel_rfl) ?_
  try refine run_s ?_
  refine w_bs0 (fun b9 => ?_)
  try refine run_s ?_
  refine w_app0 (rb.ls uc) (eb.ones fun _ _ h => one_w h) (fun p4 c4 D4 hr4 => ?_)
  try refine run_s ?_
  refine sl_call rfl rfl rfl rfl rfl rfl (fun _ => m9Zeros_ct (n := r) (by omega)) ?_
  rintro v5 U5 D5 hU5 ⟨⟨p5, c5, zs, rfl, hr5, e5⟩, -⟩
  try refine run_s ?_
  refine w_app (X := D5 ++ ((b9, .arr [], TR) :: (b2, .var (.agg #[.int .i64 (r : Int), .int .i64 (n : Int), .slice pa (r * n) cm]), TM) :: M)) hr4 pm (hr5.at sb) (El.ones e5 fun _ _ h => one_q h) (fun p6 c6 D6 hr6 => ?_)
  refine sl_drop (M' := D6 ++ ((b2, .var (.agg #[.int .i64 (r : Int), .int .i64 (n : Int), .slice pa (r * n) cm]), TM) :: M)) sbk ?_
  try refine run_s ?_
  refine st_settleAll fun U6 hU6 hs6 => ?_
  have h6 : Wr bv (n + r) U6 (.slice p6 (n + r) c6) (fun j => if j < n then f j else 0) := ⟨p6, c6, _, rfl, hr6.len.2.1, hr6.sett hs6, app_ok (n := n) rb.len
    (El.congr (eb.up kept_w uc) rb.len fun j hj => (if_pos hj).symm) fun t x ht => by
      rw [if_neg (by omega)]
      exact (kept_q _ _ _ _ (show ULe U5 U6 from uc) (e5 t x ht)).w (szq_int0.mono hbv)⟩
  refine st_loop (fun z E U' M' => ∃ (i : Nat) (rest : Nat → Rat) (vr : Value), i ≤ r ∧ Wr (La.dbl (La.gro b r) bv i) (n + r) U' vr rest ∧ La.Sp r (n + r) R (fun j => (if j < n then f j else 0) + -rest j) ∧ (∀ t, t < i → rest (p t) = 0) ∧ E = [(11, .int .i64 (i : Int)), (10, vr), (8, .slice pR r cR), (9, .slice pp r cp), (2, .pointer (some ⟨b2, 0, none⟩))] ∧ ULe U6 U' ∧
      M' = (b2, .var (.agg #[.int .i64 (r : Int), .int .i64 (n : Int), .slice pa (r * n) cm]), TM) :: M ∧ z = r - i) (n0 := r)
    (E0 := [(11, .int .i64 ((0 : Nat) : Int)), (10, .slice p6 (n + r) c6), (8, .slice pR r cR), (9, .slice pp r cp), (2, .pointer (some ⟨b2, 0, none⟩))]) ⟨rfl, rfl, rfl, rfl, rfl, trivial⟩
    ⟨0, _, _, by omega, h6, (La.Sp.zero.congr (fun _ _ _ _ => rfl) fun j _ => (La.add_neg_self _).symm), (fun t h => absurd h (Nat.not_lt_zero t)), rfl, uc, rfl, rfl⟩ ?_
  clear h6
  rintro z E U7 M' ⟨i, rest, vr, hi, hrest, hsp, hz, rfl, hU7, rfl, rfl⟩
  try refine run_s ?_
  refine st_dec rfl (fun h5 => ?_) (fun h5 => ?_)
  · have hir : i < r := by omega
    have hdle : La.dbl (La.gro b r) bv (i + 1) ≤ 3000000000 := Nat.le_trans (La.dbl_le (by omega)) hd
    have hdst : La.dbl (La.gro b r) bv (i + 1) = 2 * La.dbl (La.gro b r) bv i + La.gro b r + 1 := rfl
    have hd1 : 1 ≤ La.dbl (La.gro b r) bv i := Nat.le_trans hbv (La.dbl_le (W := La.gro b r) (k := bv) (Nat.zero_le i))
    have rp2 := rp.ls (U' := U7) (M := (b2, .var (.agg #[.int .i64 (r : Int), .int .i64 (n : Int), .slice pa (r * n) cm]), TM) :: M) uc
    have rR2 := rR.ls (U' := U7) (M := (b2, .var (.agg #[.int .i64 (r : Int), .int .i64 (n : Int), .slice pa (r * n) cm]), TM) :: M) uc
    obtain ⟨v1, hv1⟩ := rp2.at hir
    obtain rfl := ep _ _ hv1
    obtain ⟨v2, hv2⟩ := rR2.at hir
    have h2 := kept_r _ _ _ _ (show ULe U3 U7 from uc) (eR _ _ hv2)
    obtain ⟨q2, c2, us, rfl, -⟩ := id h2
    try refine run_s ?_
    refine st_draw [0, 1, 2, 3, 4, 5, 6, 7, 8, 9, 10] sym (by kernel_rfl) ?_
    try refine run_s ?_
    refine sl_y (yl_index sym rfl rfl rfl rfl rfl rfl (rR2.lt hv2) (rR2.get _ _ hv2).1) rfl rfl rfl rfl ?_; refine sl_y (yl_loadR1 sym rfl rfl rfl rfl rR2 hv2 rfl) rfl rfl rfl rfl ?_
    try refine run_s ?_
    refine sl_y (yl_index sym rfl rfl rfl rfl rfl rfl (rp2.lt hv1) (rp2.get _ _ hv1).1) rfl rfl rfl rfl ?_; refine sl_y (yl_loadR1 sym rfl rfl rfl rfl rp2 hv1 rfl) rfl rfl rfl rfl ?_
    try refine run_s ?_
    refine sl_call rfl rfl rfl rfl rfl rfl (fun _ => m9clearedW_ct hrest h2 (fun j hj => hsz i j hir hj) (hE.lt i hir) hd1 (by omega) (by omega)) ?_
    rintro v8 U8 D hU8 ⟨h8, rfl⟩
    rw [List.nil_append]
    obtain ⟨hsp', hz'⟩ := La.rest_step hE hir hsp hz
    try refine run_s ?_
    exact sk_again (E' := [(11, .int .i64 ((i : Int) + 1)), (10, v8), (8, .slice pR r cR), (9, .slice pp r cp), (2, .pointer (some ⟨b2, 0, none⟩))]) (m := r - (i + 1)) ⟨rfl, rfl, rfl, rfl, rfl, trivial⟩ (by omega)
      ⟨i + 1, _, v8, by omega, h8, hsp', hz', rfl, uc, rfl, rfl⟩
  have e : i = r := by omega
  subst e
  obtain ⟨hyes, hno⟩ := La.solve_ref hE hS hsp hz
  have srest : ∀ j, j < n + i → Szq (rest j) (La.dbl (La.gro b i) bv i) := fun j hj => Ls.sz (show Ls (Wq _) 4 (n + i) U7 [] vr rest from hrest) (Nat.le_trans hbv (La.dbl_le (W := La.gro b i) (k := bv) (Nat.zero_le i))) hj
  obtain ⟨pr, cr, ws, rfl, hcr, rr, er⟩ := id hrest
  try refine run_s ?_
  refine st_loop (fun z E U' M' => ∃ j : Nat, j ≤ n ∧ (∀ t, t < j → rest t = 0) ∧ E = [(12, .int .i64 (j : Int)), (10, .slice pr (n + i) cr), (2, .pointer (some ⟨b2, 0, none⟩))] ∧ U7 = U' ∧ M' = (b2, .var (.agg #[.int .i64 (i : Int), .int .i64 (n : Int), .slice pa (i * n) cm]), TM) :: M ∧ z = n - j) (n0 := n)
    (E0 := [(12, .int .i64 ((0 : Nat) : Int)), (10, .slice pr (n + i) cr), (2, .pointer (some ⟨b2, 0, none⟩))]) ⟨rfl, rfl, rfl, trivial⟩ ⟨0, by omega, (fun t h => absurd h (Nat.not_lt_zero t)), rfl, rfl, rfl, rfl⟩ ?_
  rintro z E U8 M' ⟨j, hj, hz0, rfl, rfl, rfl, rfl⟩
  try refine run_s ?_
  refine st_dec rfl (fun h6 => ?_) (fun h6 => ?_)
  · have hjn : j < n := by omega
    have rr2 := rr.ls (U' := U7) (M := (b2, .var (.agg #[.int .i64 (i : Int), .int .i64 (n : Int), .slice pa (i * n) cm]), TM) :: M) (ULe.refl _)
    obtain ⟨v8, hv8⟩ := rr2.at (k := j) (by omega)
    obtain ⟨x8, rfl, hx8, hn8⟩ := er _ _ hv8
    try refine run_s ?_
    refine sl_y (yl_index sym rfl rfl rfl rfl rfl rfl (rr2.lt hv8) (rr2.get _ _ hv8).1) rfl rfl rfl rfl ?_; refine sl_y (yl_loadRs sym rfl rfl rfl rfl rfl rr2 hv8) rfl rfl rfl rfl ?_
    repeat (first | refine run_S ?_ | refine w_box (fun _ => ?_) | refine w_al (fun _ => ?_))
    refine sl_call rfl rfl rfl rfl rfl rfl (fun _ => rqSign_ct (hx8.up uc sb) (by omega)) ?_
    rintro v U' D hU ⟨rfl, rfl, rfl⟩
    repeat (first | refine run_S ?_ | refine w_box (fun _ => ?_) | refine w_al (fun _ => ?_))
    refine st_ne rfl (fun hq => ?_) (fun hq => ?_)
    · try refine run_s ?_
      refine sk_ret [] sym rfl (.cons (.tmp rfl) (.cons (.tmp rfl) .nil)) uc sb (.inl rfl) ⟨(fun _ => rfl), (fun ⟨y, hy⟩ => absurd (hno y hy j hjn) fun e0 => hq (by rw [e0]; rfl)), rfl⟩
    · have h0 : rest j = 0 := rat_num_zero.1 (Int.sign_eq_zero_iff_zero.1 (by omega))
      try refine run_s ?_
      exact sk_again (E' := [(12, .int .i64 ((j : Int) + 1)), (10, .slice pr (n + i) cr), (2, .pointer (some ⟨b2, 0, none⟩))]) (m := n - (j + 1)) ⟨rfl, rfl, rfl, trivial⟩ (by omega)
        ⟨j + 1, by omega, (fun t ht => by
          rcases Nat.lt_or_eq_of_le (Nat.le_of_lt_succ ht) with h1 | h1
          · exact hz0 t h1
          · rw [h1]; exact h0), rfl, rfl, rfl, rfl⟩
  · have e : j = n := by omega
    subst e
    have hsol := hyes fun t ht => hz0 t ht
    try refine run_s ?_
    refine st_drawM [8, 9, 10] [0, 1, 4, 5, 6, 7, 2, 3, 8, 9, 10] sym (by kernel_rfl) ?_
    try refine run_s ?_
    refine w_sFrom (lo := j) (n := j + i) (by omega) hcr ?_
    have hpart := rr.drop (l := j) (by omega) hcr
    have e1 : j + i - j = i := by omega
    rw [e1] at hpart ⊢
    generalize (if cr = j then pr else pr.map (·.add (j * 4))) = q3 at hpart ⊢
    try refine run_s ?_
    refine sl_call rfl rfl rfl rfl rfl rfl (fun _ => (m9Zeros_ct (n := i) (by omega)).setl kept_q) ?_
    rintro v9 U9 D hU9 ⟨h9, rfl⟩
    rw [List.nil_append]
    try refine run_s ?_
    refine sl_call rfl rfl rfl rfl rfl rfl (fun _ => rqOf_ct (z := -1) (by decide) (by decide)) ?_
    rintro v Uh10 D hU ⟨xh10, rfl, h10, rfl⟩
    repeat (first | refine run_S ?_ | refine w_box (fun _ => ?_) | refine w_al (fun _ => ?_))
    have hls : Ls (Wq (La.dbl (La.gro b i) bv i)) 4 i U7 [] (.slice q3 i (cr - j)) (fun t => rest (j + t)) := ⟨q3, cr - j, _, rfl, by omega, hpart, fun t x ht => by
      rw [List.getElem?_drop] at ht
      exact er _ _ ht⟩
    try refine run_s ?_
    refine sl_call rfl rfl rfl rfl rfl rfl (fun _ => (m9Combine_ct (b := La.dbl (La.gro b i) bv i + 1) ((h9.ls kept_q uc).toW fun _ _ => szq_int0.mono (by omega)) (h10.rep.up uc sb) (h10.le szq_intm (by omega)) (Ls.mono (Ls.up (M' := _) hls kept_w uc sb) (by omega)) (by omega) (by omega) (by omega)).setl kept_q) ?_
    rintro v11 U11 D hU11 ⟨h11, rfl⟩
    rw [List.nil_append]
    have hX : ∀ t, (0 : Rat) + ((-1 : Int) : Rat) * rest (j + t) = -rest (j + t) := fun t => by
      rw [show ((-1 : Int) : Rat) = -1 from rfl, Rat.zero_add, Rat.neg_mul, Rat.one_mul]
    try refine run_s ?_
    exact sk_ret [] sym rfl (.cons (.tmp rfl) (.cons (.tmp rfl) .nil)) uc sb (.inl rfl) ⟨(fun hn => absurd hsol.1 (hn _)), (fun _ => ⟨_, _, rfl, Ls.congr (kept_r _ _ _ _ uc h11) fun t _ => hX t, hsol, fun t ht => (srest (j + t) (by omega)).neg.mono (by omega)⟩), rfl⟩

end Go.Proofs.YtcfgogamamdipaaGreat
