/- The law of layer 9 on operations. -/
import Derived.Test.YtcfgogamamdipaaGreatB121
import Derived.Test.YtcfgogamamdipaaGreatB122
import Derived.Test.YtcfgogamamdipaaGreatB120
import Derived.Test.YtcfgogamamdipaaGreatB114
namespace Go.Proofs.YtcfgogamamdipaaGreat
open Go.Hp
variable {G : World} {U U' : UH} {M M' : MH}

theorem ct_setC {r c fn : Nat} {A : Nat → Nat → Rat} {args : List Value} (h : Ct Tryz.prog fn args G U M fun v U' D => ∃ vC, v = .tuple #[vC, .int .i64 0] ∧ Vmo r c U' D vC A ∧ ULe U U') :
    Ct Tryz.prog fn args G U M fun v U' D => ∃ vC, v = .tuple #[vC, .int .i64 0] ∧ Vm Vq r c U' vC A ∧ D = [] :=
  h.settle.mono fun _ _ _ _ ⟨h1, _, _, ⟨vC, h2, ⟨a, h3, h9⟩, _⟩, _, h7, h8⟩ => ⟨vC, h2, ⟨a, h3, h9.sett kept_q h7 h8⟩, h1⟩

theorem QV.v_inj {x y : QV} (h : x.v = y.v) : x = y := by
  obtain ⟨⟨a1, a2, a3, a4⟩, ⟨a5, a6, a7, a8⟩⟩ := x
  obtain ⟨⟨b1, b2, b3, b4⟩, ⟨b5, b6, b7, b8⟩⟩ := y
  simp only [QV.v, Value.agg.injEq, Array.mk.injEq, List.cons.injEq, Value.bool.injEq, Value.slice.injEq, and_true] at h
  obtain ⟨rfl, ⟨rfl, rfl, rfl⟩, rfl, ⟨rfl, rfl, rfl⟩⟩ := h
  rfl

set_option maxRecDepth 100000 in
theorem MatrixOperations_ct {va vb : Value} {ra ca rb cb : Int} {na nb : Nat} {fa fb : Nat → Rat} {xs : QV} {q : Rat} (ha : Raw U va ra ca na fa) (hb : Raw U vb rb cb nb fb) (hx : xs.rep U [] q) :
    Ct Tryz.prog 11 [va, vb, xs.v] G U M fun v _ _ => v = .bool true := by
  have ha0 := ha
  have hb0 := hb
  obtain ⟨ha1, ha2, ha3, _, rfl, pa, cca, asa, rfl, -⟩ := ha
  obtain ⟨hb1, hb2, hb3, _, rfl, pb, ccb, asb, rfl, -⟩ := hb
  refine ct_of_st Tryz.func11 rfl rfl rfl rfl ?_
  repeat (first | refine run_S ?_ | refine w_box (fun _ => ?_) | refine w_al (fun _ => ?_))
  rename_i b3 b4 b5
  refine sl_call rfl rfl rfl rfl rfl rfl (fun _ => awake9_ct) ?_
  rintro v1 U1 D hU1 ⟨rfl, -, rfl⟩
  rw [List.nil_append]
  repeat (first | refine run_S ?_ | refine w_box (fun _ => ?_) | refine w_al (fun _ => ?_))
  refine sl_bslice (vs := [.agg #[.int .i64 ra, .int .i64 ca, .slice pa na cca], .agg #[.int .i64 rb, .int .i64 cb, .slice pb nb ccb]]) sym rfl rfl rfl rfl rfl rfl (all_size rfl) rfl rfl rfl rfl rfl rfl (fun bl => ?_)
  have hrl := (RowO.mk (e := TM) (s := 3) (b := bl) (n := 2) (vs := [.agg #[.int .i64 ra, .int .i64 ca, .slice pa na cca], .agg #[.int .i64 rb, .int .i64 cb, .slice pb nb ccb]]) rfl (all_size rfl) (by omega)).at (U := U1) (M := (bl, .arr [.agg #[.int .i64 ra, .int .i64 ca, .slice pa na cca], .agg #[.int .i64 rb, .int .i64 cb, .slice pb nb ccb]], TM) :: (b5, .var xs.v, TR) :: (b4, .var (.agg #[.int .i64 rb, .int .i64 cb, .slice pb nb ccb]), TM) :: (b3, .var (.agg #[.int .i64 ra, .int .i64 ca, .slice pa na cca]), TM) :: M) sb
  refine sl_call rfl rfl rfl rfl rfl rfl (fun _ => light_ct (most := 6) (r := fun k => if k = 0 then ra else rb) (c := fun k => if k = 0 then ca else cb) (n := fun k => if k = 0 then na else nb) (f := fun k => if k = 0 then fa else fb) (hrl.up uc sb) (two_rows (P := fun k v => Raw U1 v (if k = 0 then ra else rb) (if k = 0 then ca else cb) (if k = 0 then na else nb) (if k = 0 then fa else fb)) (ha0.up uc) (hb0.up uc)) (by decide) (by decide)) ?_
  rintro v2 U2 D hU2 ⟨b, rfl, hl, rfl, rfl⟩
  rw [List.nil_append]
  cases b
  · repeat (first | refine run_S ?_ | refine w_box (fun _ => ?_) | refine w_al (fun _ => ?_))
    exact sk_ret [] sym rfl (.cons (.tmp rfl) .nil) uc sb (.inl rfl) rfl
  have la : Lit 6 U1 _ ra ca na fa := hl rfl 0 _ rfl
  have lb : Lit 6 U1 _ rb cb nb fb := hl rfl 1 _ rfl
  clear hl hrl
  repeat (first | refine run_S ?_ | refine w_box (fun _ => ?_) | refine w_al (fun _ => ?_))
  refine sl_call rfl rfl rfl rfl rfl rfl (fun _ => m9Valid_ct (r := ra) (c := ca) (p := pa) (cc := cca) ha3) ?_
  rintro v U' D hU ⟨rfl, rfl, rfl⟩
  repeat (first | refine run_S ?_ | refine w_box (fun _ => ?_) | refine w_al (fun _ => ?_))
  by_cases hVa : Vld ra ca na
  · rw [decide_eq_true hVa]
    repeat (first | refine run_S ?_ | refine w_box (fun _ => ?_) | refine w_al (fun _ => ?_))
    refine sl_call rfl rfl rfl rfl rfl rfl (fun _ => m9Valid_ct (r := rb) (c := cb) (p := pb) (cc := ccb) hb3) ?_
    rintro v U' D hU ⟨rfl, rfl, rfl⟩
    repeat (first | refine run_S ?_ | refine w_box (fun _ => ?_) | refine w_al (fun _ => ?_))
    by_cases hVb : Vld rb cb nb
    · rw [decide_eq_true hVb]
      obtain ⟨m, n, rfl, rfl, hm6, hn6, hA⟩ := la.vm hVa
      generalize (fun i j => fa (i * n + j)) = A at hA
      obtain ⟨k, l, rfl, rfl, hk6, hl6, hB⟩ := lb.vm hVb
      generalize (fun i j => fb (i * l + j)) = B at hB
      have sA : ∀ i j, i < m → j < n → Szq (A i j) 1 := fun i j hi hj => hA.sz (Nat.le_refl 1) hi hj
      have sB : ∀ i j, i < k → j < l → Szq (B i j) 1 := fun i j hi hj => hB.sz (Nat.le_refl 1) hi hj
      have hmn : ∀ {x y : Nat}, x ≤ 6 → y ≤ 6 → x * y ≤ 36 := fun hx hy => Nat.le_trans (Nat.mul_le_mul hx hy) (by decide)
      have hmn1 := hmn hm6 hn6
      clear la lb
      repeat (first | refine run_S ?_ | refine w_box (fun _ => ?_) | refine w_al (fun _ => ?_))
      refine sl_bslice (vs := [xs.v]) sym rfl rfl rfl rfl rfl rfl (all_size rfl) rfl rfl rfl rfl rfl rfl (fun bx => ?_)
      have hrx := (RowO.mk (e := TR) (s := 4) (b := bx) (n := 1) (vs := [xs.v]) rfl (all_size rfl) (by omega)).at (U := U1) (M := (bx, .arr [xs.v], TR) :: (bl, .arr [.agg #[.int .i64 (m : Int), .int .i64 (n : Int), .slice pa na cca], .agg #[.int .i64 (k : Int), .int .i64 (l : Int), .slice pb nb ccb]], TM) :: (b5, .var xs.v, TR) :: (b4, .var (.agg #[.int .i64 (k : Int), .int .i64 (l : Int), .slice pb nb ccb]), TM) :: (b3, .var (.agg #[.int .i64 (m : Int), .int .i64 (n : Int), .slice pa na cca]), TM) :: M) sb
      rw [List.nil_append, List.nil_append]
      refine sl_call rfl rfl rfl rfl rfl rfl (fun _ => short9_ct (f := fun _ => q) (hrx.up uc sb) (one_row (P := fun _ v => Xq U1 v q) ⟨xs, rfl, hx.up uc (List.Sublist.refl _)⟩) (by omega)) ?_
      rintro v3 U3 D3 hU3 ⟨bs, rfl, hbs, rfl, rfl⟩
      rw [List.nil_append]
      cases bs
      · repeat (first | refine run_S ?_ | refine w_box (fun _ => ?_) | refine w_al (fun _ => ?_))
        exact sk_ret [] sym rfl (.cons (.tmp rfl) .nil) uc sb (.inl rfl) rfl
      obtain ⟨xs2, hxs2, -, hxl⟩ := hbs rfl 0 _ rfl
      obtain rfl := QV.v_inj hxs2
      clear hbs hxs2
      refine sl_anti (M' := (b5, .var xs.v, TR) :: (b4, .var (.agg #[.int .i64 (k : Int), .int .i64 (l : Int), .slice pb nb ccb]), TM) :: (b3, .var (.agg #[.int .i64 (m : Int), .int .i64 (n : Int), .slice pa na cca]), TM) :: M) ?_ sbk
      have hx1 := hx.up (U' := U1) (M' := []) uc (List.Sublist.refl _)
      clear hx
      have sq := hx1.sz hxl (Nat.le_refl 1)
      repeat (first | refine run_S ?_ | refine w_box (fun _ => ?_) | refine w_al (fun _ => ?_))
      refine sl_call rfl rfl rfl rfl rfl rfl (fun _ => ct_setC (mScale_co (kept_m kept_w _ _ _ _ uc hA) (hx1.up uc (List.Sublist.refl _)) hxl (by decide) (by omega) (by omega))) ?_
      rintro v4 U4 D4 hU4 ⟨_, rfl, hS, rfl⟩
      rw [List.nil_append]
      obtain ⟨_, rfl, pS, cS, ss, rfl, -⟩ := id hS
      repeat (first | refine run_S ?_ | refine w_box (fun _ => ?_) | refine w_al (fun _ => ?_))
      rename_i b7
      refine st_draw [0, 1, 2, 3, 4, 5, 6] sym (by kernel_rfl) ?_
      try refine run_s ?_
      refine sl_call rfl rfl rfl rfl rfl rfl (fun _ => ct_setg (m9Rows_co (kept_m kept_w _ _ _ _ uc hA) (by decide) (by omega) (by omega) (by omega))) ?_
      rintro v6 U6 D6 hU6 ⟨hR, rfl⟩
      rw [List.nil_append]
      obtain ⟨pr, cr, rs, rfl, -⟩ := id hR
      try refine run_s ?_
      refine sl_call rfl rfl rfl rfl rfl rfl (fun _ => m9Of_ct (b := 1) (Ls.toWr (hR.up kept_r uc (List.nil_sublist _)) sA) (by decide) (by omega) (by omega) (by omega)) ?_
      rintro v7 U7 D7 hU7 ⟨⟨_, rfl, pz, cz, zs, rfl, hz, ez⟩, -⟩
      clear hR
      repeat (first | refine run_S ?_ | refine w_box (fun _ => ?_) | refine w_al (fun _ => ?_))
      rename_i b9
      refine st_perm (M := (b9, .var (.agg #[.int .i64 (m : Int), .int .i64 (n : Int), .slice pz (m * n) cz]), TM) :: (D7 ++ ((b7, .var (.agg #[.int .i64 (m : Int), .int .i64 (n : Int), .slice pS (m * n) cS]), TM) :: (b5, .var xs.v, TR) :: (b4, .var (.agg #[.int .i64 (k : Int), .int .i64 (l : Int), .slice pb nb ccb]), TM) :: (b3, .var (.agg #[.int .i64 (m : Int), .int .i64 (n : Int), .slice pa na cca]), TM) :: M))) (M' := (b9, .var (.agg #[.int .i64 (m : Int), .int .i64 (n : Int), .slice pz (m * n) cz]), TM) :: (b7, .var (.agg #[.int .i64 (m : Int), .int .i64 (n : Int), .slice pS (m * n) cS]), TM) :: (b5, .var xs.v, TR) :: (b4, .var (.agg #[.int .i64 (k : Int), .int .i64 (l : Int), .slice pb nb ccb]), TM) :: (b3, .var (.agg #[.int .i64 (m : Int), .int .i64 (n : Int), .slice pa na cca]), TM) :: (D7 ++ M)) pm ?_
      refine st_loop (fun z E U' M' => ∃ (i : Nat) (vs : List Value) (D : MH), i ≤ m * n ∧ RowO TR 4 D pz (m * n) cz vs ∧ El Vq U' vs (fun k => if k < i then 0 else fl n A k) ∧ E = [(10, .int .i64 (i : Int)), (3, .pointer (some ⟨b3, 0, none⟩)), (4, .pointer (some ⟨b4, 0, none⟩)), (5, .pointer (some ⟨b5, 0, none⟩)), (7, .pointer (some ⟨b7, 0, none⟩)), (8, .int .i64 0), (9, .pointer (some ⟨b9, 0, none⟩))] ∧ ULe U7 U' ∧ M' = (b9, .var (.agg #[.int .i64 (m : Int), .int .i64 (n : Int), .slice pz (m * n) cz]), TM) :: (b7, .var (.agg #[.int .i64 (m : Int), .int .i64 (n : Int), .slice pS (m * n) cS]), TM) :: (b5, .var xs.v, TR) :: (b4, .var (.agg #[.int .i64 (k : Int), .int .i64 (l : Int), .slice pb nb ccb]), TM) :: (b3, .var (.agg #[.int .i64 (m : Int), .int .i64 (n : Int), .slice pa na cca]), TM) :: (D ++ M) ∧ z = m * n - i) (n0 := m * n)
        (E0 := [(10, .int .i64 ((0 : Nat) : Int)), (3, .pointer (some ⟨b3, 0, none⟩)), (4, .pointer (some ⟨b4, 0, none⟩)), (5, .pointer (some ⟨b5, 0, none⟩)), (7, .pointer (some ⟨b7, 0, none⟩)), (8, .int .i64 0), (9, .pointer (some ⟨b9, 0, none⟩))]) ⟨rfl, rfl, rfl, rfl, rfl, rfl, rfl, trivial⟩ ⟨0, zs, D7, by omega, hz, by simpa using ez, rfl, uc, rfl, rfl⟩ ?_
      clear hz ez
      rintro z E U8 M' ⟨i, vs, D, hi, hrow, hel, rfl, hU8, rfl, rfl⟩
      try refine run_s ?_
      refine st_dec rfl (fun h => ?_) (fun h => ?_)
      · have him : i < m * n := by omega
        try refine run_s ?_
        refine st_drawM [4, 5] [0, 1, 2, 3, 4, 5] sym (by kernel_rfl) ?_
        try refine run_s ?_
        refine sl_call rfl rfl rfl rfl rfl rfl (fun _ => rqOf_ct (z := 0) (by decide) (by decide)) ?_
        rintro v Uh1 D hU ⟨xh1, rfl, h1, rfl⟩
        repeat (first | refine run_S ?_ | refine w_box (fun _ => ?_) | refine w_al (fun _ => ?_))
        refine w_addr (j := i) him (hrow.some (by omega)) ?_
        refine w_storeR (v := xh1.v) (X := (b9, .var (.agg #[.int .i64 (m : Int), .int .i64 (n : Int), .slice pz (m * n) cz]), TM) :: (b7, .var (.agg #[.int .i64 (m : Int), .int .i64 (n : Int), .slice pS (m * n) cS]), TM) :: (b5, .var xs.v, TR) :: (b4, .var (.agg #[.int .i64 (k : Int), .int .i64 (l : Int), .slice pb nb ccb]), TM) :: (b3, .var (.agg #[.int .i64 (m : Int), .int .i64 (n : Int), .slice pa na cca]), TM) :: M) hrow pm him (fun D4 hr4 => ?_)
        refine sl_perm (M' := (b9, .var (.agg #[.int .i64 (m : Int), .int .i64 (n : Int), .slice pz (m * n) cz]), TM) :: (b7, .var (.agg #[.int .i64 (m : Int), .int .i64 (n : Int), .slice pS (m * n) cS]), TM) :: (b5, .var xs.v, TR) :: (b4, .var (.agg #[.int .i64 (k : Int), .int .i64 (l : Int), .slice pb nb ccb]), TM) :: (b3, .var (.agg #[.int .i64 (m : Int), .int .i64 (n : Int), .slice pa na cca]), TM) :: (D4 ++ M)) ?_ pm
        try refine run_s ?_
        exact sk_again (E' := [(10, .int .i64 ((i : Int) + 1)), (3, .pointer (some ⟨b3, 0, none⟩)), (4, .pointer (some ⟨b4, 0, none⟩)), (5, .pointer (some ⟨b5, 0, none⟩)), (7, .pointer (some ⟨b7, 0, none⟩)), (8, .int .i64 0), (9, .pointer (some ⟨b9, 0, none⟩))]) (m := m * n - (i + 1)) ⟨rfl, rfl, rfl, rfl, rfl, rfl, rfl, trivial⟩ (by omega)
          ⟨i + 1, _, D4, by omega, hr4, set_ok (fun k x hk hne => by
            have : Vq Uh1 x (if k < i then 0 else fl n A k) := (hel.up (U' := Uh1) kept_q uc) k x hk
            by_cases e : k < i
            · rw [if_pos e] at this; rw [if_pos (by omega)]; exact this
            · rw [if_neg e] at this; rw [if_neg (by omega)]; exact this) (by
            rw [if_pos (by omega)]; exact ⟨xh1, rfl, h1⟩), rfl, uc, rfl, rfl⟩
      have e : i = m * n := by omega
      subst e
      refine st_perm (M' := D ++ ((b9, .var (.agg #[.int .i64 (m : Int), .int .i64 (n : Int), .slice pz (m * n) cz]), TM) :: (b7, .var (.agg #[.int .i64 (m : Int), .int .i64 (n : Int), .slice pS (m * n) cS]), TM) :: (b5, .var xs.v, TR) :: (b4, .var (.agg #[.int .i64 (k : Int), .int .i64 (l : Int), .slice pb nb ccb]), TM) :: (b3, .var (.agg #[.int .i64 (m : Int), .int .i64 (n : Int), .slice pa na cca]), TM) :: M)) pm ?_
      refine st_settleAll fun U9 hU9 hs9 => ?_
      have hZ : Vm Vq m n U9 (.agg #[.int .i64 (m : Int), .int .i64 (n : Int), .slice pz (m * n) cz]) (fun _ _ => 0) := ⟨_, rfl, pz, cz, vs, rfl, hrow.len.2.1, hrow.sett hs9, (hel.up kept_q uc).congr hrow.len.1 fun k hk => by rw [if_pos hk]; rfl⟩
      clear hrow hel hs9
      repeat (first | refine run_S ?_ | refine w_box (fun _ => ?_) | refine w_al (fun _ => ?_))
      refine sl_call rfl rfl rfl rfl rfl rfl (fun _ => ct_setC (mTranspose_co (kept_m kept_w _ _ _ _ uc hA) (by decide) (by omega) (by omega))) ?_
      rintro v11 U11 D11 hU11 ⟨_, rfl, hT, rfl⟩
      rw [List.nil_append]
      obtain ⟨_, rfl, pT, cT, ts, rfl, -⟩ := id hT
      repeat (first | refine run_S ?_ | refine w_box (fun _ => ?_) | refine w_al (fun _ => ?_))
      rename_i b11
      refine st_draw [0, 1, 2, 3, 4, 5, 6, 7, 8, 9, 10, 11, 12, 13, 14, 15, 16, 17, 18, 19, 20, 21] sym (by kernel_rfl) ?_
      repeat (first | refine run_S ?_ | refine w_box (fun _ => ?_) | refine w_al (fun _ => ?_))
      refine sl_gdec rfl rfl (fun h => absurd rfl h) (fun _ => ?_)
      repeat (first | refine run_S ?_ | refine w_box (fun _ => ?_) | refine w_al (fun _ => ?_))
      refine sl_gdec rfl rfl (fun h => absurd rfl h) (fun _ => ?_)
      repeat (first | refine run_S ?_ | refine w_box (fun _ => ?_) | refine w_al (fun _ => ?_))
      refine sl_call rfl rfl rfl rfl rfl rfl (fun _ => m9Add_ct (b := 1) (kept_m kept_w _ _ _ _ uc (hZ.w fun _ _ _ _ => szq_int0)) (hx1.up uc (List.Sublist.refl _)) hxl (kept_m kept_w _ _ _ _ uc hA) (Nat.le_refl 1) (by decide) (by omega) (by omega)) ?_
      rintro v12 U12 D12 hU12 ⟨h12, rfl⟩
      rw [List.nil_append]
      obtain ⟨_, rfl, p12, c12, w12, rfl, -⟩ := id h12
      repeat (first | refine run_S ?_ | refine w_box (fun _ => ?_) | refine w_al (fun _ => ?_))
      refine sl_call rfl rfl rfl rfl rfl rfl (fun _ => bSameMatrix_ct (kept_m kept_q _ _ _ _ uc hS) (kept_m kept_q _ _ _ _ uc h12) (by omega) (by omega)) ?_
      rintro v13 U13 D hU13 ⟨b13, rfl, hb13, rfl, rfl⟩
      rw [List.nil_append]
      obtain rfl := hb13.2 ⟨rfl, rfl, fun i j _ _ => (Rat.zero_add _).symm⟩
      repeat (first | refine run_S ?_ | refine w_box (fun _ => ?_) | refine w_al (fun _ => ?_))
      refine sl_call rfl rfl rfl rfl rfl rfl (fun _ => ct_setm (m9Transpose_ct (kept_m kept_w _ _ _ _ uc hA) (by decide) (by omega) (by omega))) ?_
      rintro vh14 Uh14 D hU ⟨h14, rfl⟩
      rw [List.nil_append]
      repeat (first | refine run_S ?_ | refine w_box (fun _ => ?_) | refine w_al (fun _ => ?_))
      obtain ⟨_, rfl, p14, c14, w14, rfl, -⟩ := id h14
      repeat (first | refine run_S ?_ | refine w_box (fun _ => ?_) | refine w_al (fun _ => ?_))
      refine sl_call rfl rfl rfl rfl rfl rfl (fun _ => bSameMatrix_ct (kept_m kept_q _ _ _ _ uc hT) (kept_m kept_q _ _ _ _ uc h14) (by have := hmn hn6 hm6; omega) (by have := hmn hn6 hm6; omega)) ?_
      rintro v15 U15 D hU15 ⟨b15, rfl, hb15, rfl, rfl⟩
      rw [List.nil_append]
      obtain rfl := hb15.2 ⟨rfl, rfl, fun i j _ _ => rfl⟩
      repeat (first | refine run_O ?_ | refine w_box (fun _ => ?_) | refine w_al (fun _ => ?_))
      refine st_anti (M' := (b4, .var (.agg #[.int .i64 (k : Int), .int .i64 (l : Int), .slice pb nb ccb]), TM) :: (b3, .var (.agg #[.int .i64 (m : Int), .int .i64 (n : Int), .slice pa na cca]), TM) :: M) (ULe.refl _) sbk ?_
      refine st_seq_cut (fun E U' M' => E = [(3, .pointer (some ⟨b3, 0, none⟩)), (4, .pointer (some ⟨b4, 0, none⟩))] ∧ ULe U1 U' ∧ M' = (b4, .var (.agg #[.int .i64 (k : Int), .int .i64 (l : Int), .slice pb nb ccb]), TM) :: (b3, .var (.agg #[.int .i64 (m : Int), .int .i64 (n : Int), .slice pa na cca]), TM) :: M) ?_ ?_
      · repeat (first | refine run_S ?_ | refine w_box (fun _ => ?_) | refine w_al (fun _ => ?_))
        refine sl_gdec rfl rfl (fun h1 => ?_) (fun h1 => ?_)
        · repeat (first | refine run_S ?_ | refine w_box (fun _ => ?_) | refine w_al (fun _ => ?_))
          refine st_dec rfl (fun h2 => ?_) (fun h2 => ?_)
          · obtain rfl : m = k := by omega
            obtain rfl : n = l := by omega
            repeat (first | refine run_S ?_ | refine w_box (fun _ => ?_) | refine w_al (fun _ => ?_))
            refine sl_call rfl rfl rfl rfl rfl rfl (fun _ => ct_setC (mAdd_co (kept_m kept_w _ _ _ _ uc hA) (kept_m kept_w _ _ _ _ uc hB) (by decide) (by omega) (by omega))) ?_
            rintro v4 U4 D4 hU4 ⟨_, rfl, hP, rfl⟩
            rw [List.nil_append]
            obtain ⟨_, rfl, pP, cP, ps, rfl, -⟩ := id hP
            repeat (first | refine run_S ?_ | refine w_box (fun _ => ?_) | refine w_al (fun _ => ?_))
            rename_i b13
            refine sl_call rfl rfl rfl rfl rfl rfl (fun _ => ct_setC (mSub_co (kept_m kept_w _ _ _ _ uc hA) (kept_m kept_w _ _ _ _ uc hB) (by decide) (by omega) (by omega))) ?_
            rintro v5 U5 D5 hU5 ⟨_, rfl, hQ, rfl⟩
            rw [List.nil_append]
            obtain ⟨_, rfl, pQ, cQ, qs, rfl, -⟩ := id hQ
            repeat (first | refine run_S ?_ | refine w_box (fun _ => ?_) | refine w_al (fun _ => ?_))
            rename_i b15
            refine st_draw [0, 1, 2, 3, 4, 5, 6, 7, 8, 10, 9, 11, 12, 13, 14, 15, 16, 17, 19, 18, 20, 21, 22, 23] sym (by kernel_rfl) ?_
            repeat (first | refine run_S ?_ | refine w_box (fun _ => ?_) | refine w_al (fun _ => ?_))
            refine sl_gdec rfl rfl (fun h => absurd rfl h) (fun _ => ?_)
            repeat (first | refine run_S ?_ | refine w_box (fun _ => ?_) | refine w_al (fun _ => ?_))
            refine sl_gdec rfl rfl (fun h => absurd rfl h) (fun _ => ?_)
            repeat (first | refine run_S ?_ | refine w_box (fun _ => ?_) | refine w_al (fun _ => ?_))
            refine sl_call rfl rfl rfl rfl rfl rfl (fun _ => rqOf_ct (z := 1) (by decide) (by decide)) ?_
            rintro v Uh6 D hU ⟨xh6, rfl, h6, rfl⟩
            repeat (first | refine run_S ?_ | refine w_box (fun _ => ?_) | refine w_al (fun _ => ?_))
            repeat (first | refine run_S ?_ | refine w_box (fun _ => ?_) | refine w_al (fun _ => ?_))
            refine sl_call rfl rfl rfl rfl rfl rfl (fun _ => m9Add_ct (b := 1) (kept_m kept_w _ _ _ _ uc hA) (h6.rep.up uc (List.Sublist.refl _)) (h6.le szq_int1 (Nat.le_refl 1)) (kept_m kept_w _ _ _ _ uc hB) (Nat.le_refl 1) (by decide) (by omega) (by omega)) ?_
            rintro v12 U12 D12 hU12 ⟨h12, rfl⟩
            rw [List.nil_append]
            obtain ⟨_, rfl, p12, c12, w12, rfl, -⟩ := id h12
            repeat (first | refine run_S ?_ | refine w_box (fun _ => ?_) | refine w_al (fun _ => ?_))
            refine sl_call rfl rfl rfl rfl rfl rfl (fun _ => bSameMatrix_ct (kept_m kept_q _ _ _ _ uc hP) (kept_m kept_q _ _ _ _ uc h12) (by omega) (by omega)) ?_
            rintro v13 U13 D hU13 ⟨b, rfl, hb13, rfl, rfl⟩
            rw [List.nil_append]
            obtain rfl := hb13.2 ⟨rfl, rfl, fun i j _ _ => by
              show A i j + B i j = A i j + ((1 : Int) : Rat) * B i j
              rw [show ((1 : Int) : Rat) = 1 from rfl, Rat.one_mul]⟩
            repeat (first | refine run_S ?_ | refine w_box (fun _ => ?_) | refine w_al (fun _ => ?_))
            refine sl_call rfl rfl rfl rfl rfl rfl (fun _ => rqOf_ct (z := -1) (by decide) (by decide)) ?_
            rintro v Uh7 D hU ⟨xh7, rfl, h7, rfl⟩
            repeat (first | refine run_S ?_ | refine w_box (fun _ => ?_) | refine w_al (fun _ => ?_))
            repeat (first | refine run_S ?_ | refine w_box (fun _ => ?_) | refine w_al (fun _ => ?_))
            refine sl_call rfl rfl rfl rfl rfl rfl (fun _ => m9Add_ct (b := 1) (kept_m kept_w _ _ _ _ uc hA) (h7.rep.up uc (List.Sublist.refl _)) (h7.le szq_intm (Nat.le_refl 1)) (kept_m kept_w _ _ _ _ uc hB) (Nat.le_refl 1) (by decide) (by omega) (by omega)) ?_
            rintro v14 U14 D14 hU14 ⟨h14, rfl⟩
            rw [List.nil_append]
            obtain ⟨_, rfl, p14, c14, w14, rfl, -⟩ := id h14
            repeat (first | refine run_S ?_ | refine w_box (fun _ => ?_) | refine w_al (fun _ => ?_))
            refine sl_call rfl rfl rfl rfl rfl rfl (fun _ => bSameMatrix_ct (kept_m kept_q _ _ _ _ uc hQ) (kept_m kept_q _ _ _ _ uc h14) (by omega) (by omega)) ?_
            rintro v15 U15 D hU15 ⟨b, rfl, hb15, rfl, rfl⟩
            rw [List.nil_append]
            obtain rfl := hb15.2 ⟨rfl, rfl, fun i j _ _ => by
              show A i j - B i j = A i j + ((-1 : Int) : Rat) * B i j
              rw [show ((-1 : Int) : Rat) = -1 from rfl]
              grind⟩
            repeat (first | refine run_S ?_ | refine w_box (fun _ => ?_) | refine w_al (fun _ => ?_))
            refine sk_anti (M' := (b4, .var (.agg #[.int .i64 (m : Int), .int .i64 (n : Int), .slice pb nb ccb]), TM) :: (b3, .var (.agg #[.int .i64 (m : Int), .int .i64 (n : Int), .slice pa na cca]), TM) :: M) (ULe.refl _) sbk ?_
            exact sk_cut (E' := [(3, .pointer (some ⟨b3, 0, none⟩)), (4, .pointer (some ⟨b4, 0, none⟩))]) ⟨rfl, rfl, trivial⟩ ⟨rfl, uc, rfl⟩
          · repeat (first | refine run_S ?_ | refine w_box (fun _ => ?_) | refine w_al (fun _ => ?_))
            exact sk_cut (E' := [(3, .pointer (some ⟨b3, 0, none⟩)), (4, .pointer (some ⟨b4, 0, none⟩))]) ⟨rfl, rfl, trivial⟩ ⟨rfl, uc, rfl⟩
        · repeat (first | refine run_S ?_ | refine w_box (fun _ => ?_) | refine w_al (fun _ => ?_))
          exact sk_cut (E' := [(3, .pointer (some ⟨b3, 0, none⟩)), (4, .pointer (some ⟨b4, 0, none⟩))]) ⟨rfl, rfl, trivial⟩ ⟨rfl, uc, rfl⟩
      rintro E U16 M' ⟨rfl, hU16, rfl⟩
      refine st_seq_cut (fun E U' M' => E = [(3, .pointer (some ⟨b3, 0, none⟩)), (4, .pointer (some ⟨b4, 0, none⟩))] ∧ ULe U1 U' ∧ M' = (b4, .var (.agg #[.int .i64 (k : Int), .int .i64 (l : Int), .slice pb nb ccb]), TM) :: (b3, .var (.agg #[.int .i64 (m : Int), .int .i64 (n : Int), .slice pa na cca]), TM) :: M) ?_ ?_
      · repeat (first | refine run_S ?_ | refine w_box (fun _ => ?_) | refine w_al (fun _ => ?_))
        refine st_dec rfl (fun h1 => ?_) (fun h1 => ?_)
        · obtain rfl : m = n := by omega
          repeat (first | refine run_S ?_ | refine w_box (fun _ => ?_) | refine w_al (fun _ => ?_))
          refine sl_call rfl rfl rfl rfl rfl rfl (fun _ => mTrace_ct (b := 1) (kept_m kept_w _ _ _ _ uc hA) (Nat.le_refl 1) (by omega) (by omega)) ?_
          rintro v17 U17 D hU17 ⟨x1, rfl, h17, rfl⟩
          rw [List.nil_append]
          repeat (first | refine run_S ?_ | refine w_box (fun _ => ?_) | refine w_al (fun _ => ?_))
          rename_i b17
          refine st_draw [0, 1, 2, 3, 4, 5, 6, 7, 8] sym (by kernel_rfl) ?_
          repeat (first | refine run_S ?_ | refine w_box (fun _ => ?_) | refine w_al (fun _ => ?_))
          refine sl_gdec rfl rfl (fun h => absurd rfl h) (fun _ => ?_)
          repeat (first | refine run_S ?_ | refine w_box (fun _ => ?_) | refine w_al (fun _ => ?_))
          refine sl_call rfl rfl rfl rfl rfl rfl (fun _ => m9Trace_ct (b := 1) (kept_m kept_w _ _ _ _ uc hA) (Nat.le_refl 1) (by omega) (by decide) (by omega)) ?_
          rintro v18 U18 D hU18 ⟨x2, rfl, h18, rfl⟩
          rw [List.nil_append]
          repeat (first | refine run_S ?_ | refine w_box (fun _ => ?_) | refine w_al (fun _ => ?_))
          refine sl_call rfl rfl rfl rfl rfl rfl (fun _ => rqSame_ct (h17.up uc sb) (h18.up uc sb)) ?_
          rintro v U' D hU ⟨rfl, rfl, rfl⟩
          repeat (first | refine run_S ?_ | refine w_box (fun _ => ?_) | refine w_al (fun _ => ?_))
          rw [decide_eq_true rfl]
          repeat (first | refine run_S ?_ | refine w_box (fun _ => ?_) | refine w_al (fun _ => ?_))
          refine sk_anti (M' := (b4, .var (.agg #[.int .i64 (k : Int), .int .i64 (l : Int), .slice pb nb ccb]), TM) :: (b3, .var (.agg #[.int .i64 (m : Int), .int .i64 (m : Int), .slice pa na cca]), TM) :: M) (ULe.refl _) sbk ?_
          exact sk_cut (E' := [(3, .pointer (some ⟨b3, 0, none⟩)), (4, .pointer (some ⟨b4, 0, none⟩))]) ⟨rfl, rfl, trivial⟩ ⟨rfl, uc, rfl⟩
        · repeat (first | refine run_S ?_ | refine w_box (fun _ => ?_) | refine w_al (fun _ => ?_))
          exact sk_cut (E' := [(3, .pointer (some ⟨b3, 0, none⟩)), (4, .pointer (some ⟨b4, 0, none⟩))]) ⟨rfl, rfl, trivial⟩ ⟨rfl, uc, rfl⟩
      rintro E U19 M' ⟨rfl, hU19, rfl⟩
      repeat (first | refine run_S ?_ | refine w_box (fun _ => ?_) | refine w_al (fun _ => ?_))
      refine st_ne rfl (fun hne => ?_) (fun heq => ?_)
      · repeat (first | refine run_S ?_ | refine w_box (fun _ => ?_) | refine w_al (fun _ => ?_))
        exact sk_ret [] sym rfl (.cons (.tmp rfl) .nil) uc sb (.inl rfl) rfl
      obtain rfl : n = k := by omega
      repeat (first | refine run_S ?_ | refine w_box (fun _ => ?_) | refine w_al (fun _ => ?_))
      refine sl_call rfl rfl rfl rfl rfl rfl (fun _ => mMul_ct (b := 1) (kept_m kept_w _ _ _ _ uc hA) (kept_m kept_w _ _ _ _ uc hB) (Nat.le_refl 1) (by omega) (by omega) (by omega) (by omega)) ?_
      rintro v20 U20 D hU20 ⟨_, rfl, h20, rfl⟩
      rw [List.nil_append]
      obtain ⟨_, rfl, p20, c20, s20, rfl, -⟩ := id h20
      repeat (first | refine run_S ?_ | refine w_box (fun _ => ?_) | refine w_al (fun _ => ?_))
      rename_i b19
      refine st_draw [0, 1, 2, 3, 4, 5, 6, 7, 8, 9] sym (by kernel_rfl) ?_
      repeat (first | refine run_S ?_ | refine w_box (fun _ => ?_) | refine w_al (fun _ => ?_))
      refine sl_gdec rfl rfl (fun h => absurd rfl h) (fun _ => ?_)
      repeat (first | refine run_S ?_ | refine w_box (fun _ => ?_) | refine w_al (fun _ => ?_))
      refine sl_call rfl rfl rfl rfl rfl rfl (fun _ => m9Mul_ct (b := 1) (kept_m kept_w _ _ _ _ uc hA) (kept_m kept_w _ _ _ _ uc hB) (Nat.le_refl 1) (by omega) (by decide) (by omega) (by omega) (by omega)) ?_
      rintro v21 U21 D hU21 ⟨h21, rfl⟩
      rw [List.nil_append]
      obtain ⟨_, rfl, p21, c21, s21, rfl, -⟩ := id h21
      have hml := hmn hm6 hl6
      repeat (first | refine run_S ?_ | refine w_box (fun _ => ?_) | refine w_al (fun _ => ?_))
      refine sl_call rfl rfl rfl rfl rfl rfl (fun _ => bSameMatrix_ct (kept_m kept_q _ _ _ _ uc h20) (kept_m kept_q _ _ _ _ uc h21) (by omega) (by omega)) ?_
      rintro v22 U22 D hU22 ⟨b, rfl, hb22, rfl, rfl⟩
      rw [List.nil_append]
      obtain rfl := hb22.2 ⟨rfl, rfl, fun i j _ _ => rfl⟩
      repeat (first | refine run_S ?_ | refine w_box (fun _ => ?_) | refine w_al (fun _ => ?_))
      refine sl_call rfl rfl rfl rfl rfl rfl (fun _ => ct_setg (m9Rows_co (kept_m kept_w _ _ _ _ uc hA) (by decide) (by omega) (by omega) (by omega))) ?_
      rintro v23 U23 D hU23 ⟨⟨pr, cr, rs, rfl, hcr, rr, er⟩, rfl⟩
      rw [List.nil_append]
      repeat (first | refine run_S ?_ | refine w_box (fun _ => ?_) | refine w_al (fun _ => ?_))
      refine st_anti (M' := (b4, .var (.agg #[.int .i64 (n : Int), .int .i64 (l : Int), .slice pb nb ccb]), TM) :: (b3, .var (.agg #[.int .i64 (m : Int), .int .i64 (n : Int), .slice pa na cca]), TM) :: M) (ULe.refl _) sbk ?_
      refine st_loop (fun z E U' M' => ∃ (i : Nat), i ≤ m ∧ E = [(22, .int .i64 (i : Int)), (21, .slice pr m cr), (3, .pointer (some ⟨b3, 0, none⟩)), (4, .pointer (some ⟨b4, 0, none⟩))] ∧ ULe U23 U' ∧ M' = (b4, .var (.agg #[.int .i64 (n : Int), .int .i64 (l : Int), .slice pb nb ccb]), TM) :: (b3, .var (.agg #[.int .i64 (m : Int), .int .i64 (n : Int), .slice pa na cca]), TM) :: M ∧ z = m - i) (n0 := m)
        (E0 := [(22, .int .i64 ((0 : Nat) : Int)), (21, .slice pr m cr), (3, .pointer (some ⟨b3, 0, none⟩)), (4, .pointer (some ⟨b4, 0, none⟩))]) ⟨rfl, rfl, rfl, rfl, trivial⟩ ⟨0, by omega, rfl, uc, rfl, rfl⟩ ?_
      rintro z E U24 M' ⟨i, hi, rfl, hU24, rfl, rfl⟩
      try refine run_s ?_
      refine st_dec rfl (fun h => ?_) (fun h => ?_)
      · have him : i < m := by omega
        have rr2 := rr.up (U' := U24) (M' := (b4, .var (.agg #[.int .i64 (n : Int), .int .i64 (l : Int), .slice pb nb ccb]), TM) :: (b3, .var (.agg #[.int .i64 (m : Int), .int .i64 (n : Int), .slice pa na cca]), TM) :: M) uc sb
        obtain ⟨v25, hv25⟩ := rr.at him
        have e25 := er _ _ hv25
        have hX : Ls (Wq 1) 4 n U24 [] v25 (A i) := Ls.up (e25.toW fun j hj => sA i j him hj) kept_w uc (List.Sublist.refl _)
        obtain ⟨p25, c25, us, rfl, -⟩ := id e25
        try refine run_s ?_
        refine st_draw [0, 1, 2, 3, 4, 5, 6, 7, 8, 9, 10] sym (by kernel_rfl) ?_
        try refine run_s ?_
        refine sl_y (yl_index sym rfl rfl rfl rfl rfl rfl (rr2.lt hv25) (rr2.get _ _ hv25).1) rfl rfl rfl rfl ?_; refine sl_y (yl_loadR1 sym rfl rfl rfl rfl rr2 hv25 rfl) rfl rfl rfl rfl ?_
        repeat (first | refine run_S ?_ | refine w_box (fun _ => ?_) | refine w_al (fun _ => ?_))
        refine sl_call rfl rfl rfl rfl rfl rfl (fun _ => mApply_ct (b := 1) (Ls.up hX kept_w uc (List.Sublist.refl _)) (kept_m kept_w _ _ _ _ uc hB) (Nat.le_refl 1) (by omega) (by omega) (by omega)) ?_
        rintro v26 U26 D hU26 ⟨_, rfl, h26, rfl⟩
        rw [List.nil_append]
        obtain ⟨p26, c26, s26, rfl, -⟩ := id h26
        repeat (first | refine run_S ?_ | refine w_box (fun _ => ?_) | refine w_al (fun _ => ?_))
        refine st_draw [0, 1, 2, 3, 4, 5, 6, 7, 8, 9, 10, 11, 12] sym (by kernel_rfl) ?_
        repeat (first | refine run_S ?_ | refine w_box (fun _ => ?_) | refine w_al (fun _ => ?_))
        refine sl_gdec rfl rfl (fun h => absurd rfl h) (fun _ => ?_)
        repeat (first | refine run_S ?_ | refine w_box (fun _ => ?_) | refine w_al (fun _ => ?_))
        refine sl_y (yl_index sym rfl rfl rfl rfl rfl rfl ((rr2.up uc sb).lt hv25) ((rr2.up uc sb).get _ _ hv25).1) rfl rfl rfl rfl ?_; refine sl_y (yl_loadR1 sym rfl rfl rfl rfl (rr2.up uc sb) hv25 rfl) rfl rfl rfl rfl ?_
        repeat (first | refine run_S ?_ | refine w_box (fun _ => ?_) | refine w_al (fun _ => ?_))
        refine sl_call rfl rfl rfl rfl rfl rfl (fun _ => (m9Apply_ct (b := 1) (Ls.up (M' := _) hX kept_w uc sb) (kept_m kept_w _ _ _ _ uc hB) (Nat.le_refl 1) (by omega) (by omega) (by omega) (by omega) (by have := hmn hk6 hl6; omega)).setl kept_q) ?_
        rintro v27 U27 D hU27 ⟨h27, rfl⟩
        rw [List.nil_append]
        obtain ⟨p27, c27, s27, rfl, -⟩ := id h27
        repeat (first | refine run_S ?_ | refine w_box (fun _ => ?_) | refine w_al (fun _ => ?_))
        refine sl_call rfl rfl rfl rfl rfl rfl (fun _ => bSameRats_ct (Ls.up (M' := _) h26 kept_q uc sb) (Ls.up (M' := _) h27 kept_q uc sb) (by omega) (by omega)) ?_
        rintro v28 U28 D hU28 ⟨b28, rfl, hb28, rfl, rfl⟩
        rw [List.nil_append]
        obtain rfl := hb28.2 ⟨rfl, fun _ _ => rfl⟩
        repeat (first | refine run_S ?_ | refine w_box (fun _ => ?_) | refine w_al (fun _ => ?_))
        exact sk_again (E' := [(22, .int .i64 ((i : Int) + 1)), (21, .slice pr m cr), (3, .pointer (some ⟨b3, 0, none⟩)), (4, .pointer (some ⟨b4, 0, none⟩))]) (m := m - (i + 1)) ⟨rfl, rfl, rfl, rfl, trivial⟩ (by omega) ⟨i + 1, by omega, rfl, uc, rfl, rfl⟩
      · repeat (first | refine run_S ?_ | refine w_box (fun _ => ?_) | refine w_al (fun _ => ?_))
        exact sk_ret [] sym rfl (.cons (.tmp rfl) .nil) uc sb (.inl rfl) rfl
    · rw [decide_eq_false hVb]
      repeat (first | refine run_S ?_ | refine w_box (fun _ => ?_) | refine w_al (fun _ => ?_))
      exact sk_ret [] sym rfl (.cons (.tmp rfl) .nil) uc sb (.inl rfl) rfl
  · rw [decide_eq_false hVa]
    repeat (first | refine run_S ?_ | refine w_box (fun _ => ?_) | refine w_al (fun _ => ?_))
    exact sk_ret [] sym rfl (.cons (.tmp rfl) .nil) uc sb (.inl rfl) rfl

end Go.Proofs.YtcfgogamamdipaaGreat
