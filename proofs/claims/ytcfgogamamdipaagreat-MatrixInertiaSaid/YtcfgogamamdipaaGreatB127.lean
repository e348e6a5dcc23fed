/- Walks of reference 09: signatures. -/
import Derived.Test.YtcfgogamamdipaaGreatB126
import Derived.Test.YtcfgogamamdipaaGreatB125
namespace Go.Proofs.YtcfgogamamdipaaGreat
open Go.Hp
variable {G : World} {U U' : UH} {M M' : MH}

theorem m9Signature_ct {n : Nat} {va : Value} {A : Nat → Nat → Rat} (ha : Vm (Wq 1) n n U va A) (hA : ∀ i j, i < n → j < n → A i j = A j i) (hn : n ≤ 5) :
    Ct Tryz.prog 51 [va] G U M fun v U' D => D = [] ∧ ∃ (p m w : Nat) (P N W : Nat → Nat → Rat), La.Sig n p m w A P N W ∧ p + m ≤ n ∧ v = .tuple #[.int .i64 (p : Int), .int .i64 (m : Int), .int .i64 ((n : Int) - p - m)] := by
  have hnn : n * n ≤ 5 * 5 := Nat.mul_le_mul hn hn
  have hz1 : n * (2 * 100000 + 1) ≤ 5 * 200001 := Nat.mul_le_mul hn (by omega)
  have hz0 : 1 + n * (2 * 100000 + 1) ≤ 10000000000 := by omega
  have hz2 : n * (2 * 100000 + 1) + 100000 + 2 ≤ 1100007 := Nat.le_trans (Nat.add_le_add_right (Nat.add_le_add_right hz1 100000) 2) (by decide)
  have hB : n * (n * (2 * 100000 + 1) + 100000 + 2) ≤ 30000000000 := Nat.le_trans (Nat.mul_le_mul hn hz2) (by decide)
  have ha1 : ∀ i j, i < n → j < n → Szq (A i j) 1 := fun i j hi hj => ha.sz (Nat.le_refl 1) hi hj
  have ha2 := ha.mono (show 1 ≤ 100000 by decide)
  have ha3 := ha
  obtain ⟨_, rfl, pa, cca, as1, rfl, -⟩ := ha3
  refine ct_of_st Tryz.func51 rfl rfl rfl rfl ?_
  repeat (first | refine run_S ?_ | refine w_box (fun _ => ?_) | refine w_al (fun _ => ?_))
  rename_i b1
  refine st_loop (fun z E U' M' => ∃ (i : Nat) (P : Option Addr) (C : Nat) (vs : List Value) (D : MH), i ≤ n ∧ RowO TRs 1 D P i C vs ∧ El (Vr n) U' vs La.idm ∧ E = [(5, .slice P i C), (6, .int .i64 (i : Int)), (1, .pointer (some ⟨b1, 0, none⟩))] ∧ ULe U U' ∧ M' = (b1, .var (.agg #[.int .i64 (n : Int), .int .i64 (n : Int), .slice pa (n * n) cca]), TM) :: (D ++ M) ∧ z = n - i) (n0 := n - 0) (E0 := [(5, .slice none 0 0), (6, .int .i64 ((0 : Nat) : Int)), (1, .pointer (some ⟨b1, 0, none⟩))]) ⟨rfl, rfl, rfl, trivial⟩ ⟨0, none, 0, [], [], by omega, RowO.nil, El.nil, rfl, uc, rfl, rfl⟩ ?_
  rintro z E U1 M' ⟨i, P, C, vs, D, hi, hrow, hel, rfl, hU1, rfl, rfl⟩
  try refine run_s ?_
  refine st_dec rfl (fun h => ?_) (fun h => ?_)
  · try refine run_s ?_
    refine sl_call rfl rfl rfl rfl rfl rfl (fun _ => (m9Unit_ct (n := n) (i := i) (by omega) (by omega)).setl kept_q) ?_
    rintro v2 U2 D2 hU2 ⟨⟨p, c, us, rfl, hc, hr, he⟩, rfl⟩
    try rw [List.nil_append]
    repeat (first | refine run_S ?_ | refine w_box (fun _ => ?_) | refine w_al (fun _ => ?_))
    refine w_push hrow (perm1 (D := _)).symm (fun bhr2 phr2 chr2 Dhr2 hr2 => ?_)
    refine sl_perm ?_ (perm1 (D := Dhr2))
    repeat (first | refine run_S ?_ | refine w_box (fun _ => ?_) | refine w_al (fun _ => ?_))
    exact sk_again (E' := [(5, .slice phr2 (i + 1) chr2), (6, .int .i64 ((i : Int) + 1)), (1, .pointer (some ⟨b1, 0, none⟩))]) (m := n - (i + 1)) ⟨rfl, rfl, rfl, trivial⟩ (by omega) ⟨i + 1, phr2, chr2, _, Dhr2, by omega, hr2, snoc_ok hrow.len.1 (hel.up kept_r uc) (Ls.congr ⟨p, c, us, rfl, hc, hr, he⟩ fun k _ => by unfold La.idm; by_cases e : k = i <;> simp [e, Ne.symm]), rfl, uc, rfl, rfl⟩
  have e : n = i := by omega
  subst e
  refine st_perm (M' := D ++ ((b1, .var (.agg #[.int .i64 (n : Int), .int .i64 (n : Int), .slice pa (n * n) cca]), TM) :: M)) pm ?_
  refine st_settleAll fun U2 hU2 hs2 => ?_
  have hL : Ls (Vr n) 1 n U2 [] (.slice P n C) La.idm := ⟨P, C, vs, rfl, hrow.len.2.1, hrow.sett hs2, hel.up kept_r uc⟩
  clear hrow hel hs2 h
  try refine run_s ?_
  refine st_loop (fun z E U' M' => ∃ (p m r : Nat) (L PP NN : Nat → Nat → Rat) (pv : Nat → Nat) (pl : Option Addr) (cl : Nat), Ls (Vr n) 1 r U' [] (.slice pl r cl) L ∧ La.Ech r n L pv ∧ p + m + r = n ∧ La.Prt n p m r A PP NN L ∧ (∀ i j, i < r → j < n → Szq (L i j) (srr (p + m))) ∧ (∀ i k, i < r → k < r → Szq (La.bl n A (L i) (L k)) (sgg (p + m))) ∧ E = [(5, .slice pl r cl), (7, .int .i64 (p : Int)), (8, .int .i64 (m : Int)), (1, .pointer (some ⟨b1, 0, none⟩))] ∧ ULe U2 U' ∧ M' = (b1, .var (.agg #[.int .i64 (n : Int), .int .i64 (n : Int), .slice pa (n * n) cca]), TM) :: M ∧ z = r) (n0 := n) (E0 := [(5, .slice P n C), (7, .int .i64 ((0 : Nat) : Int)), (8, .int .i64 ((0 : Nat) : Int)), (1, .pointer (some ⟨b1, 0, none⟩))]) ⟨rfl, rfl, rfl, rfl, trivial⟩ ⟨0, 0, n, La.idm, La.idm, La.idm, id, P, C, hL, idm_ech n, by omega, La.Prt.start, (fun i j _ _ => by show Szq (if i = j then (1 : Rat) else 0) 1; split; exact szq_int1; exact szq_int0), (fun i k hi hk => by rw [La.bl_unit hi hk]; exact ha1 i k hi hk), rfl, uc, rfl, rfl⟩ ?_
  rintro z E U3 M' ⟨p, m, r, L, PP, NN, pv, pl, cl, hL, hE, hpm, hP, hs, hg, rfl, hU3, rfl, hzL2⟩
  try refine run_s ?_
  have hs' : ∀ i j, i < r → j < n → Szq (L i j) 40000 := fun i j hi hj => (hs i j hi hj).mono (sgg_le (k := p + m) (by omega)).2
  refine sl_call rfl rfl rfl rfl rfl rfl (fun _ => m9aniso_ct (rr := 40000) (kept_m kept_w _ _ _ _ uc ha) (hL.up kept_r uc (List.nil_sublist _)) hs' (Nat.le_refl _) hn (by omega)) ?_
  rintro v4 U4 D4 hU4 ⟨vv, ok, rfl, hok, hno, rfl⟩
  try rw [List.nil_append]
  cases ok
  · obtain ⟨rfl, h1, h2⟩ := hno rfl
    try refine run_s ?_
    refine st_draw [0, 1, 2, 3, 4, 5, 6, 7, 8, 9, 10] sym (by kernel_rfl) ?_
    try refine run_s ?_
    exact sk_ret [] sym rfl (.cons (.tmp rfl) (.cons (.tmp rfl) (.cons (.tmp rfl) .nil))) uc sb (.inl rfl) ⟨rfl, p, m, r, PP, NN, L, hP.sig (iso_zero hA h1 h2), by omega, rfl⟩
  obtain ⟨f, hf, hv, hq⟩ := hok rfl
  clear hok hno
  obtain ⟨pf, cf, fs, rfl, -⟩ := id hf
  have hk : p + m < 5 := by obtain ⟨a, ha, _⟩ := hv; omega
  obtain ⟨sg, sr⟩ := sgg_le hk
  have sf := hv.szq hs
  have hfW : Ls (Wq 100000) 4 n U4 [] (.slice pf n cf) f := Ls.toW hf fun j hj => (sf j hj).mono (by omega)
  have sq : Szq (La.bl n A f f) (4 * sgg (p + m) + 3) := hv.self hA hg
  have sy : ∀ i, i < r → Szq (La.bl n A (L i) f) (2 * sgg (p + m) + 1) := fun i hi => hv.bl fun k hk => hg i k hi hk
  obtain ⟨pl', cl', ls, hvl, hcl, rl, el⟩ := hL
  obtain ⟨rfl, -, rfl⟩ := Value.slice.inj hvl
  clear hvl
  try refine run_s ?_
  refine sl_call rfl rfl rfl rfl rfl rfl (fun _ => m9value_ct (b := 100000) (kept_m kept_w _ _ _ _ uc ha2) (Ls.up hfW kept_w uc (List.Sublist.refl _)) (Ls.up hfW kept_w uc (List.Sublist.refl _)) (by decide) hz0 hB (by decide) (by omega)) ?_
  rintro v5 U5 D5 hU5 ⟨xq, rfl, hx, rfl⟩
  try rw [List.nil_append]
  repeat (first | refine run_O ?_ | refine w_box (fun _ => ?_) | refine w_al (fun _ => ?_))
  rename_i b11
  refine st_seq_cut (fun E U' M' => ∃ (p' m' : Nat), ((0 < La.bl n A f f ∧ p' = p + 1 ∧ m' = m) ∨ (La.bl n A f f < 0 ∧ p' = p ∧ m' = m + 1)) ∧ E = [(5, .slice pl r cl), (7, .int .i64 (p' : Int)), (8, .int .i64 (m' : Int)), (1, .pointer (some ⟨b1, 0, none⟩)), (9, .slice pf n cf), (11, .pointer (some ⟨b11, 0, none⟩))] ∧ ULe U5 U' ∧ M' = (b11, .var xq.v, TR) :: (b1, .var (.agg #[.int .i64 (n : Int), .int .i64 (n : Int), .slice pa (n * n) cca]), TM) :: M) ?_ ?_
  · try refine run_s ?_
    refine sl_call rfl rfl rfl rfl rfl rfl (fun _ => rqSign_ct (hx.rep.up uc sb) (hx.le sq (by omega))) ?_
    rintro v U' D hU ⟨rfl, rfl, rfl⟩
    repeat (first | refine run_S ?_ | refine w_box (fun _ => ?_) | refine w_al (fun _ => ?_))
    refine st_dec rfl (fun h1 => ?_) (fun h1 => ?_)
    · try refine run_s ?_
      exact sk_cut (E' := [(5, .slice pl r cl), (7, .int .i64 ((p : Int) + 1)), (8, .int .i64 ((m : Nat) : Int)), (1, .pointer (some ⟨b1, 0, none⟩)), (9, .slice pf n cf), (11, .pointer (some ⟨b11, 0, none⟩))]) ⟨rfl, rfl, rfl, rfl, rfl, rfl, trivial⟩ ⟨p + 1, m, .inl ⟨sgn_gt h1, rfl, rfl⟩, rfl, uc, rfl⟩
    · try refine run_s ?_
      exact sk_cut (E' := [(5, .slice pl r cl), (7, .int .i64 ((p : Nat) : Int)), (8, .int .i64 ((m : Int) + 1)), (1, .pointer (some ⟨b1, 0, none⟩)), (9, .slice pf n cf), (11, .pointer (some ⟨b11, 0, none⟩))]) ⟨rfl, rfl, rfl, rfl, rfl, rfl, trivial⟩ ⟨p, m + 1, .inr ⟨sgn_le h1 hq, rfl, rfl⟩, rfl, uc, rfl⟩
  rintro E U6 M' ⟨p', m', hpm', rfl, hU6, rfl⟩
  try refine run_s ?_
  refine st_loop (fun z E U' M' => ∃ (i : Nat) (P : Option Addr) (C : Nat) (vs : List Value) (D : MH), i ≤ r ∧ RowO TRs 1 D P i C vs ∧ El (Vr n) U' vs (fun i j => L i j + -(La.bl n A (L i) f / La.bl n A f f) * f j) ∧ E = [(12, .slice P i C), (13, .int .i64 (i : Int)), (5, .slice pl r cl), (9, .slice pf n cf), (11, .pointer (some ⟨b11, 0, none⟩)), (1, .pointer (some ⟨b1, 0, none⟩)), (7, .int .i64 (p' : Int)), (8, .int .i64 (m' : Int))] ∧ ULe U6 U' ∧ M' = (b11, .var xq.v, TR) :: (b1, .var (.agg #[.int .i64 (n : Int), .int .i64 (n : Int), .slice pa (n * n) cca]), TM) :: (D ++ M) ∧ z = r - i) (n0 := r - 0) (E0 := [(12, .slice none 0 0), (13, .int .i64 ((0 : Nat) : Int)), (5, .slice pl r cl), (9, .slice pf n cf), (11, .pointer (some ⟨b11, 0, none⟩)), (1, .pointer (some ⟨b1, 0, none⟩)), (7, .int .i64 (p' : Int)), (8, .int .i64 (m' : Int))]) ⟨rfl, rfl, rfl, rfl, rfl, rfl, rfl, rfl, trivial⟩ ⟨0, none, 0, [], [], by omega, RowO.nil, El.nil, rfl, uc, rfl, rfl⟩ ?_
  rintro z E U7 M' ⟨i, P, C, vs, D, hi, hrow, hel, rfl, hU7, rfl, rfl⟩
  try refine run_s ?_
  refine st_dec rfl (fun h => ?_) (fun h => ?_)
  · have hir : i < r := by omega
    have rl2 := rl.up (U' := U7) (M' := (b11, .var xq.v, TR) :: (b1, .var (.agg #[.int .i64 (n : Int), .int .i64 (n : Int), .slice pa (n * n) cca]), TM) :: (D ++ M)) uc (List.nil_sublist _)
    obtain ⟨vi, hvi⟩ := rl2.at hir
    have ei := el _ _ hvi
    obtain ⟨qi, ci, us, rfl, -⟩ := id ei
    have hLW : ∀ b, 40000 ≤ b → Ls (Wq b) 4 n U7 [] (.slice qi n ci) (L i) := fun b hb => Ls.toW (Ls.up ei kept_q uc (List.Sublist.refl _)) fun j hj => (hs' i j hir hj).mono hb
    try refine run_s ?_
    refine st_drawM [16, 17, 18, 19] [0, 1, 2, 3, 4, 5, 6, 7, 8, 9, 10, 12, 15, 11, 13, 14, 16, 17, 18, 19] sym (by kernel_rfl) ?_
    try refine run_s ?_
    refine sl_y (yl_index sym rfl rfl rfl rfl rfl rfl (rl2.lt hvi) (rl2.get _ _ hvi).1) rfl rfl rfl rfl ?_; refine sl_y (yl_loadR1 sym rfl rfl rfl rfl rl2 hvi rfl) rfl rfl rfl rfl ?_
    try refine run_s ?_
    refine sl_y (yl_index sym rfl rfl rfl rfl rfl rfl (rl2.lt hvi) (rl2.get _ _ hvi).1) rfl rfl rfl rfl ?_; refine sl_y (yl_loadR1 sym rfl rfl rfl rfl rl2 hvi rfl) rfl rfl rfl rfl ?_
    try refine run_s ?_
    refine sl_call rfl rfl rfl rfl rfl rfl (fun _ => m9value_ct (b := 100000) (kept_m kept_w _ _ _ _ uc ha2) (Ls.up (hLW 100000 (by decide)) kept_w uc (List.Sublist.refl _)) (Ls.up hfW kept_w uc (List.Sublist.refl _)) (by decide) hz0 hB (by decide) (by omega)) ?_
    rintro v8 U8 D8 hU8 ⟨x8, rfl, h8, rfl⟩
    try rw [List.nil_append]
    repeat (first | refine run_S ?_ | refine w_box (fun _ => ?_) | refine w_al (fun _ => ?_))
    refine sl_call rfl rfl rfl rfl rfl rfl (fun _ => rqRatio_ct (h8.rep.up uc sb) (h8.le (sy i hir) (by omega)) (hx.rep.up uc sb) (hx.le sq (by omega))) ?_
    rintro v Uh9 D hU ⟨xh9, rfl, h9, rfl⟩
    repeat (first | refine run_S ?_ | refine w_box (fun _ => ?_) | refine w_al (fun _ => ?_))
    refine sl_call rfl rfl rfl rfl rfl rfl (fun _ => rqNeg_ct (h9.rep.up uc sb) (h9.le ((sy i hir).div sq) (by omega))) ?_
    rintro v Uh10 D hU ⟨xh10, rfl, h10, rfl⟩
    repeat (first | refine run_S ?_ | refine w_box (fun _ => ?_) | refine w_al (fun _ => ?_))
    refine sl_call rfl rfl rfl rfl rfl rfl (fun _ => (m9Combine_ct (b := 700000) (Ls.up (M' := _) (hLW 700000 (by decide)) kept_w uc (List.nil_sublist _)) (h10.rep.up uc sb) (h10.le ((sy i hir).div sq).neg (by omega)) (Ls.up (M' := _) (hfW.mono (show 100000 ≤ 700000 by decide)) kept_w uc (List.nil_sublist _)) (by decide) (by decide) (by omega)).setl kept_q) ?_
    rintro v11 U11 D11 hU11 ⟨h11, rfl⟩
    try rw [List.nil_append]
    obtain ⟨p11, c11, w11, rfl, -⟩ := id h11
    repeat (first | refine run_S ?_ | refine w_box (fun _ => ?_) | refine w_al (fun _ => ?_))
    refine w_push hrow (perm2 (D := _)).symm (fun bhr phr chr Dhr hr => ?_)
    refine sl_perm ?_ (perm2 (D := Dhr))
    repeat (first | refine run_S ?_ | refine w_box (fun _ => ?_) | refine w_al (fun _ => ?_))
    exact sk_again (E' := [(12, .slice phr (i + 1) chr), (13, .int .i64 ((i : Int) + 1)), (5, .slice pl r cl), (9, .slice pf n cf), (11, .pointer (some ⟨b11, 0, none⟩)), (1, .pointer (some ⟨b1, 0, none⟩)), (7, .int .i64 (p' : Int)), (8, .int .i64 (m' : Int))]) (m := r - (i + 1)) ⟨rfl, rfl, rfl, rfl, rfl, rfl, rfl, rfl, trivial⟩ (by omega) ⟨i + 1, phr, chr, _, Dhr, by omega, hr, snoc_ok hrow.len.1 (hel.up kept_r uc) h11, rfl, uc, rfl, rfl⟩
  have e : r = i := by omega
  subst e
  refine st_perm (M' := D ++ ((b11, .var xq.v, TR) :: (b1, .var (.agg #[.int .i64 (n : Int), .int .i64 (n : Int), .slice pa (n * n) cca]), TM) :: M)) pm ?_
  refine st_settleAll fun U8 hU8 hs8 => ?_
  have hY : Ls (Vr n) 1 r U8 [] (.slice P r C) (fun i j => L i j + -(La.bl n A (L i) f / La.bl n A f f) * f j) := ⟨P, C, vs, rfl, hrow.len.2.1, hrow.sett hs8, hel.up kept_r uc⟩
  clear hrow hel hs8 h
  have sY : ∀ i j, i < r → j < n → Szq (L i j + -(La.bl n A (L i) f / La.bl n A f f) * f j) (3 * srr (p + m) + 6 * sgg (p + m) + 6) := fun i j hi hj => ((hs i j hi hj).add ((((sy i hi).div sq).neg).mul (sf j hj))).mono (by omega)
  have hgro : La.gro (3 * srr (p + m) + 6 * sgg (p + m) + 6) r ≤ 1000000000 := Nat.le_trans (Nat.le_trans (La.gro_le (by omega)) (sg_gro hk)) (by decide)
  try refine run_s ?_
  refine sl_call rfl rfl rfl rfl rfl rfl (fun _ => m9Reduce_ct (k := 3 * srr (p + m) + 6 * sgg (p + m) + 6) (Ls.up (M' := _) hY kept_r uc (List.nil_sublist _)) sY (by omega) hgro (by omega) (by omega)) ?_
  rintro v9 U9 D9 hU9 ⟨r', R', pv', vR, vp, rfl, hR, hpv, rfl, hE', hSame, hle, -⟩
  try rw [List.nil_append]
  obtain ⟨pR, cR, Rs, rfl, -⟩ := id hR
  obtain ⟨hr1, t, ht, ht0, hX⟩ := La.next_of hE hv.sp hq (fun _ _ _ _ => rfl) hE' hSame
  obtain ⟨PP', NN', hPrt⟩ : ∃ PP' NN', La.Prt n p' m' r' A PP' NN' R' := by
    rcases hpm' with ⟨h, rfl, rfl⟩ | ⟨h, rfl, rfl⟩
    · exact ⟨_, _, hP.pos hA hv.sp h (fun _ _ _ _ => rfl) hSame⟩
    · exact ⟨_, _, hP.negv hA hv.sp h (fun _ _ _ _ => rfl) hSame⟩
  have hpm2 : p' + m' = p + m + 1 := by omega
  subst hr1
  obtain ⟨s1, s2⟩ := next_sizes hA hv ht hs hg hX
  try refine run_s ?_
  refine sk_anti (M' := (b1, .var (.agg #[.int .i64 (n : Int), .int .i64 (n : Int), .slice pa (n * n) cca]), TM) :: M) (ULe.refl _) (List.sublist_cons_self ..) ?_
  exact sk_again (E' := [(5, .slice pR (r') cR), (7, .int .i64 ((p' : Nat) : Int)), (8, .int .i64 ((m' : Nat) : Int)), (1, .pointer (some ⟨b1, 0, none⟩))]) (m := (r')) ⟨rfl, rfl, rfl, rfl, trivial⟩ (by omega) ⟨p', m', r', R', PP', NN', pv', pR, cR, hR.up kept_r uc (List.Sublist.refl _), hE', by omega, hPrt, (by rw [hpm2]; exact s1), (by rw [hpm2]; exact s2), rfl, uc, rfl, rfl⟩

end Go.Proofs.YtcfgogamamdipaaGreat
