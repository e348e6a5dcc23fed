/- The law of layer 9 on signatures. -/
import Derived.Test.YtcfgogamamdipaaGreatB127
import Derived.Test.YtcfgogamamdipaaGreatB104
namespace Go.Proofs.YtcfgogamamdipaaGreat
open Go.Hp
variable {G : World} {U U' : UH} {M M' : MH}

set_option maxRecDepth 100000 in
theorem MatrixInertia_ct {va vb : Value} {ra ca rb cb : Int} {na nb : Nat} {fa fb : Nat → Rat} (ha : Raw U va ra ca na fa) (hb : Raw U vb rb cb nb fb) :
    Ct Tryz.prog 10 [va, vb] G U M fun v _ _ => v = .bool true := by
  have ha0 := ha
  have hb0 := hb
  obtain ⟨ha1, ha2, ha3, _, rfl, pa, cca, asa, rfl, -⟩ := ha
  obtain ⟨hb1, hb2, hb3, _, rfl, pb, ccb, asb, rfl, -⟩ := hb
  refine ct_of_st Tryz.func10 rfl rfl rfl rfl ?_
  repeat (first | refine run_S ?_ | refine w_box (fun _ => ?_) | refine w_al (fun _ => ?_))
  rename_i b2 b3
  refine sl_call rfl rfl rfl rfl rfl rfl (fun _ => awake9_ct) ?_
  rintro v1 U1 D hU1 ⟨rfl, -, rfl⟩
  rw [List.nil_append]
  repeat (first | refine run_S ?_ | refine w_box (fun _ => ?_) | refine w_al (fun _ => ?_))
  refine sl_bslice (vs := [.agg #[.int .i64 ra, .int .i64 ca, .slice pa na cca], .agg #[.int .i64 rb, .int .i64 cb, .slice pb nb ccb]]) sym rfl rfl rfl rfl rfl rfl (all_size rfl) rfl rfl rfl rfl rfl rfl (fun bl => ?_)
  have hrl := (RowO.mk (e := TM) (s := 3) (b := bl) (n := 2) (vs := [.agg #[.int .i64 ra, .int .i64 ca, .slice pa na cca], .agg #[.int .i64 rb, .int .i64 cb, .slice pb nb ccb]]) rfl (all_size rfl) (by omega)).at (U := U1) (M := (bl, .arr [.agg #[.int .i64 ra, .int .i64 ca, .slice pa na cca], .agg #[.int .i64 rb, .int .i64 cb, .slice pb nb ccb]], TM) :: (b3, .var (.agg #[.int .i64 rb, .int .i64 cb, .slice pb nb ccb]), TM) :: (b2, .var (.agg #[.int .i64 ra, .int .i64 ca, .slice pa na cca]), TM) :: M) sb
  refine sl_call rfl rfl rfl rfl rfl rfl (fun _ => light_ct (most := 5) (r := fun k => if k = 0 then ra else rb) (c := fun k => if k = 0 then ca else cb) (n := fun k => if k = 0 then na else nb) (f := fun k => if k = 0 then fa else fb) (hrl.up uc sb) (two_rows (P := fun k v => Raw U1 v (if k = 0 then ra else rb) (if k = 0 then ca else cb) (if k = 0 then na else nb) (if k = 0 then fa else fb)) (ha0.up uc) (hb0.up uc)) (by decide) (by decide)) ?_
  rintro v2 U2 D hU2 ⟨b, rfl, hl, rfl, rfl⟩
  rw [List.nil_append]
  cases b
  · repeat (first | refine run_S ?_ | refine w_box (fun _ => ?_) | refine w_al (fun _ => ?_))
    exact sk_ret [] sym rfl (.cons (.tmp rfl) .nil) uc sb (.inl rfl) rfl
  have la : Lit 5 U1 _ ra ca na fa := hl rfl 0 _ rfl
  have lb : Lit 5 U1 _ rb cb nb fb := hl rfl 1 _ rfl
  clear hl hrl
  repeat (first | refine run_S ?_ | refine w_box (fun _ => ?_) | refine w_al (fun _ => ?_))
  refine sl_call rfl rfl rfl rfl rfl rfl (fun _ => m9Valid_ct (r := ra) (c := ca) (p := pa) (cc := cca) ha3) ?_
  rintro v U' D hU ⟨rfl, rfl, rfl⟩
  repeat (first | refine run_S ?_ | refine w_box (fun _ => ?_) | refine w_al (fun _ => ?_))
  by_cases hVa : Vld ra ca na
  · rw [decide_eq_true hVa]
    repeat (first | refine run_S ?_ | refine w_box (fun _ => ?_) | refine w_al (fun _ => ?_))
    refine sl_call rfl rfl rfl rfl rfl rfl (fun _ => m9Valid_ct (r := rb) (c := cb) (p := pb) (cc := ccb) hb3) ?_
    rintro v U' D hU ⟨rfl, rfl, rfl⟩
    repeat (first | refine run_S ?_ | refine w_box (fun _ => ?_) | refine w_al (fun _ => ?_))
    by_cases hVb : Vld rb cb nb
    · rw [decide_eq_true hVb]
      obtain ⟨m, n, rfl, rfl, hm5, hn5, hA⟩ := la.vm hVa
      obtain ⟨R, C, rfl, rfl, hR5, hC5, hB⟩ := lb.vm hVb
      generalize (fun i j => fa (i * n + j)) = A at hA
      generalize (fun i j => fb (i * C + j)) = B at hB
      clear la lb
      repeat (first | refine run_S ?_ | refine w_box (fun _ => ?_) | refine w_al (fun _ => ?_))
      refine st_ne rfl (fun h => ?_) (fun hmn => ?_)
      · repeat (first | refine run_S ?_ | refine w_box (fun _ => ?_) | refine w_al (fun _ => ?_))
        exact sk_ret [] sym rfl (.cons (.tmp rfl) .nil) uc sb (.inl rfl) rfl
      obtain rfl : m = n := by omega
      clear hmn
      have g1 := gro_small (k := 1) (n := m) (by omega) (by decide)
      have g2 := gro_small (k := 1) (n := R) (by omega) (by decide)
      have s1 : ∀ k, k < m → 300 * sgb 1 k ≤ 60000000000 := fun k hk => Nat.le_trans (Nat.mul_le_mul_left 300 (sgb_le (show k ≤ 4 by omega))) (by decide)
      have sA : ∀ i j, i < m → j < m → Szq (A i j) 1 := fun i j hi hj => hA.sz (Nat.le_refl 1) hi hj
      have hmn : ∀ {x y : Nat}, x ≤ 5 → y ≤ 5 → x * y ≤ 25 := fun hx hy => Nat.le_trans (Nat.mul_le_mul hx hy) (by decide)
      repeat (first | refine run_S ?_ | refine w_box (fun _ => ?_) | refine w_al (fun _ => ?_))
      refine sl_call rfl rfl rfl rfl rfl rfl (fun _ => mSignature_ct (b := 1) (kept_m kept_w _ _ _ _ uc hA) (Nat.le_refl 1) s1 (by decide) (by omega)) ?_
      rintro v3 U3 D3 hU3 ⟨rfl, hsy, hns⟩
      try rw [List.nil_append]
      by_cases hS : ∀ i j, i < m → j < m → A i j = A j i
      · obtain ⟨p, q, w, P, N, W, hsig, hpq, rfl⟩ := hsy hS
        clear hsy hns
        repeat (first | refine run_S ?_ | refine w_box (fun _ => ?_) | refine w_al (fun _ => ?_))
        refine sl_call rfl rfl rfl rfl rfl rfl (fun _ => m9Symmetric_ct (b := 1) (kept_m kept_w _ _ _ _ uc hA) (by decide) (by omega)) ?_
        rintro v4 U4 D4 hU4 ⟨s, rfl, hs, rfl⟩
        try rw [List.nil_append]
        obtain rfl : s = true := hs.2 fun i j hi hj => hS i j hi (by omega)
        clear hs
        repeat (first | refine run_S ?_ | refine w_box (fun _ => ?_) | refine w_al (fun _ => ?_))
        refine sl_call rfl rfl rfl rfl rfl rfl (fun _ => m9Signature_ct (kept_m kept_w _ _ _ _ uc hA) hS hm5) ?_
        rintro v5 U5 D5 hU5 ⟨rfl, p', q', w', P', N', W', hsig', hpq', rfl⟩
        try rw [List.nil_append]
        obtain ⟨rfl, rfl⟩ := hsig.unique hS hsig'
        clear hsig'
        repeat (first | refine run_S ?_ | refine w_box (fun _ => ?_) | refine w_al (fun _ => ?_))
        refine sl_gdec rfl rfl (fun h => absurd rfl h) (fun _ => ?_)
        repeat (first | refine run_S ?_ | refine w_box (fun _ => ?_) | refine w_al (fun _ => ?_))
        refine sl_gdec rfl rfl (fun h => absurd rfl h) (fun _ => ?_)
        repeat (first | refine run_S ?_ | refine w_box (fun _ => ?_) | refine w_al (fun _ => ?_))
        refine sl_gdec rfl rfl (fun h => absurd rfl h) (fun _ => ?_)
        repeat (first | refine run_S ?_ | refine w_box (fun _ => ?_) | refine w_al (fun _ => ?_))
        refine sl_gdec rfl rfl (fun h => absurd rfl h) (fun _ => ?_)
        repeat (first | refine run_S ?_ | refine w_box (fun _ => ?_) | refine w_al (fun _ => ?_))
        refine sl_call rfl rfl rfl rfl rfl rfl (fun _ => m9Rank_ct (kept_m kept_w _ _ _ _ uc hA) (Nat.le_refl 1) (by omega) (by omega) (by omega)) ?_
        rintro v6 U6 D6 hU6 ⟨r6, E6, p6, rfl, e6, -, rfl⟩
        try rw [List.nil_append]
        have hr6 := hsig.rank hS e6.ech e6.same
        repeat (first | refine run_S ?_ | refine w_box (fun _ => ?_) | refine w_al (fun _ => ?_))
        refine sl_gdec rfl rfl (fun h => absurd (by omega) h) (fun _ => ?_)
        repeat (first | refine run_S ?_ | refine w_box (fun _ => ?_) | refine w_al (fun _ => ?_))
        refine st_ne rfl (fun h => absurd (by omega) h) (fun _ => ?_)
        repeat (first | refine run_S ?_ | refine w_box (fun _ => ?_) | refine w_al (fun _ => ?_))
        refine st_draw [0, 1, 2, 3, 4, 5, 6, 7, 8, 9, 10, 11, 12, 13, 15, 16, 14, 17, 18] sym (by kernel_rfl) ?_
        repeat (first | refine run_S ?_ | refine w_box (fun _ => ?_) | refine w_al (fun _ => ?_))
        refine sl_gdec rfl rfl (fun h => ?_) (fun h1 => ?_)
        · repeat (first | refine run_S ?_ | refine w_box (fun _ => ?_) | refine w_al (fun _ => ?_))
          exact sk_ret [] sym rfl (.cons (.tmp rfl) .nil) uc sb (.inl rfl) rfl
        repeat (first | refine run_S ?_ | refine w_box (fun _ => ?_) | refine w_al (fun _ => ?_))
        refine sl_gdec rfl rfl (fun h => ?_) (fun h2 => ?_)
        · repeat (first | refine run_S ?_ | refine w_box (fun _ => ?_) | refine w_al (fun _ => ?_))
          exact sk_ret [] sym rfl (.cons (.tmp rfl) .nil) uc sb (.inl rfl) rfl
        obtain rfl : R = m := by omega
        obtain rfl : C = R := by omega
        clear h1 h2
        repeat (first | refine run_S ?_ | refine w_box (fun _ => ?_) | refine w_al (fun _ => ?_))
        refine sl_call rfl rfl rfl rfl rfl rfl (fun _ => m9Rank_ct (kept_m kept_w _ _ _ _ uc hB) (Nat.le_refl 1) (by omega) (by omega) (by omega)) ?_
        rintro v7 U7 D7 hU7 ⟨r7, E7, p7, rfl, e7, -, rfl⟩
        try rw [List.nil_append]
        repeat (first | refine run_S ?_ | refine w_box (fun _ => ?_) | refine w_al (fun _ => ?_))
        refine st_dec rfl (fun h => ?_) (fun h7 => ?_)
        · repeat (first | refine run_S ?_ | refine w_box (fun _ => ?_) | refine w_al (fun _ => ?_))
          exact sk_ret [] sym rfl (.cons (.tmp rfl) .nil) uc sb (.inl rfl) rfl
        have h7m := e7.le
        obtain rfl : r7 = C := by omega
        have hfull := e7.ech.full.2
        have hC : ∀ x, La.Sp r7 r7 B x := fun x => (La.sp_all x).trans fun i hi => (e7.same.1 i hi).congr (fun _ _ _ _ => rfl) fun j hj => hfull i j hi hj
        have sB : ∀ i j, i < r7 → j < r7 → Szq (B i j) 1 := fun i j hi hj => hB.sz (Nat.le_refl 1) hi hj
        have sM : ∀ i j, i < r7 → j < r7 → Szq (La.mm r7 B A i j) 16 := fun i j hi hj => (szq_mm (fun k hk => sB i k hi hk) (fun k hk => sA k j hk hj)).mono (by omega)
        have sN : ∀ i j, i < r7 → j < r7 → Szq (La.mm r7 (La.mm r7 B A) (La.tr B) i j) 166 := fun i j hi hj => (szq_mm (b := 16) (fun k hk => sM i k hi hk) (fun k hk => (sB j k hj hk).mono (by decide))).mono (by omega)
        have s2 : ∀ k, k < r7 → 300 * sgb 166 k ≤ 60000000000 := fun k hk => Nat.le_trans (Nat.mul_le_mul_left 300 (sgb_le (show k ≤ 4 by omega))) (by decide)
        have hS2 : ∀ i j, i < r7 → j < r7 → La.mm r7 (La.mm r7 B A) (La.tr B) i j = La.mm r7 (La.mm r7 B A) (La.tr B) j i := fun i j _ _ => La.bl_symm hS (B i) (B j)
        repeat (first | refine run_S ?_ | refine w_box (fun _ => ?_) | refine w_al (fun _ => ?_))
        refine st_draw [0, 1, 3, 2, 4, 5, 6, 7, 8, 9, 10, 11, 12, 13, 14, 15] sym (by kernel_rfl) ?_
        repeat (first | refine run_S ?_ | refine w_box (fun _ => ?_) | refine w_al (fun _ => ?_))
        refine sl_call rfl rfl rfl rfl rfl rfl (fun _ => m9Mul_ct (b := 1) (kept_m kept_w _ _ _ _ uc hB) (kept_m kept_w _ _ _ _ uc hA) (Nat.le_refl 1) (by omega) (by omega) (by omega) (by omega) (by omega)) ?_
        rintro vh13 Uh13 D hU ⟨h13, rfl⟩
        rw [List.nil_append]
        repeat (first | refine run_S ?_ | refine w_box (fun _ => ?_) | refine w_al (fun _ => ?_))
        refine sl_call rfl rfl rfl rfl rfl rfl (fun _ => ct_setm (m9Transpose_ct (kept_m kept_w _ _ _ _ uc hB) (by omega) (by omega) (by omega))) ?_
        rintro vh14 Uh14 D hU ⟨h14, rfl⟩
        rw [List.nil_append]
        repeat (first | refine run_S ?_ | refine w_box (fun _ => ?_) | refine w_al (fun _ => ?_))
        refine sl_call rfl rfl rfl rfl rfl rfl (fun _ => m9Mul_ct (b := 16) ((kept_m kept_q _ _ _ _ uc h13).w sM) ((kept_m kept_q _ _ _ _ uc h14).w fun i j hi hj => (sB j i hj hi).mono (by decide)) (by decide) (by omega) (by omega) (by omega) (by omega) (by omega)) ?_
        rintro vh15 Uh15 D hU ⟨h15, rfl⟩
        rw [List.nil_append]
        repeat (first | refine run_S ?_ | refine w_box (fun _ => ?_) | refine w_al (fun _ => ?_))
        refine sl_call rfl rfl rfl rfl rfl rfl (fun _ => mSignature_ct (b := 166) ((kept_m kept_q _ _ _ _ uc h15).w sN) (by decide) s2 (by decide) (by omega)) ?_
        rintro v16 U16 D16 hU16 ⟨rfl, hsy, -⟩
        try rw [List.nil_append]
        obtain ⟨p2, q2, w2, P2, N2, W2, hsig2, hpq2, rfl⟩ := hsy hS2
        obtain ⟨rfl, rfl⟩ := (hsig2.image hC).unique hS hsig
        repeat (first | refine run_S ?_ | refine w_box (fun _ => ?_) | refine w_al (fun _ => ?_))
        refine sl_gdec rfl rfl (fun _ => ?_) (fun h => absurd rfl h)
        repeat (first | refine run_S ?_ | refine w_box (fun _ => ?_) | refine w_al (fun _ => ?_))
        refine sl_gdec rfl rfl (fun _ => ?_) (fun h => absurd rfl h)
        repeat (first | refine run_S ?_ | refine w_box (fun _ => ?_) | refine w_al (fun _ => ?_))
        refine sl_gdec rfl rfl (fun _ => ?_) (fun h => absurd rfl h)
        repeat (first | refine run_S ?_ | refine w_box (fun _ => ?_) | refine w_al (fun _ => ?_))
        exact sk_ret [] sym rfl (.cons (.tmp rfl) .nil) uc sb (.inl rfl) (by show Value.bool _ = _; rw [dec_true rfl])
      · obtain rfl := hns hS
        clear hsy hns
        repeat (first | refine run_S ?_ | refine w_box (fun _ => ?_) | refine w_al (fun _ => ?_))
        refine sl_call rfl rfl rfl rfl rfl rfl (fun _ => m9Symmetric_ct (b := 1) (kept_m kept_w _ _ _ _ uc hA) (by decide) (by omega)) ?_
        rintro v4 U4 D4 hU4 ⟨s, rfl, hs, rfl⟩
        try rw [List.nil_append]
        obtain rfl : s = false := by
          cases s
          · rfl
          · refine absurd (fun i j hi hj => ?_) hS
            rcases Nat.lt_trichotomy j i with h | h | h
            · exact hs.1 rfl i j hi h
            · rw [h]
            · exact (hs.1 rfl j i hj h).symm
        clear hs
        repeat (first | refine run_S ?_ | refine w_box (fun _ => ?_) | refine w_al (fun _ => ?_))
        refine sl_gdec rfl rfl (fun _ => ?_) (fun h => absurd rfl h)
        repeat (first | refine run_S ?_ | refine w_box (fun _ => ?_) | refine w_al (fun _ => ?_))
        refine sl_gdec rfl rfl (fun _ => ?_) (fun h => absurd rfl h)
        repeat (first | refine run_S ?_ | refine w_box (fun _ => ?_) | refine w_al (fun _ => ?_))
        refine sl_gdec rfl rfl (fun _ => ?_) (fun h => absurd rfl h)
        repeat (first | refine run_S ?_ | refine w_box (fun _ => ?_) | refine w_al (fun _ => ?_))
        exact sk_ret [] sym rfl (.cons (.tmp rfl) .nil) uc sb (.inl rfl) (by show Value.bool _ = _; rw [dec_true rfl])
    · rw [decide_eq_false hVb]
      repeat (first | refine run_S ?_ | refine w_box (fun _ => ?_) | refine w_al (fun _ => ?_))
      exact sk_ret [] sym rfl (.cons (.tmp rfl) .nil) uc sb (.inl rfl) rfl
  · rw [decide_eq_false hVa]
    repeat (first | refine run_S ?_ | refine w_box (fun _ => ?_) | refine w_al (fun _ => ?_))
    exact sk_ret [] sym rfl (.cons (.tmp rfl) .nil) uc sb (.inl rfl) rfl

end Go.Proofs.YtcfgogamamdipaaGreat
