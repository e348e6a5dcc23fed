/- The law of layer 9 on echelon forms. -/
import Derived.Test.YtcfgogamamdipaaGreatB103
import Derived.Test.YtcfgogamamdipaaGreatLe
namespace Go.Proofs.YtcfgogamamdipaaGreat
open Go.Hp
variable {G : World} {U U' : UH} {M M' : MH}

theorem EchOf.unique {m n r r' : Nat} {A R R' : Nat → Nat → Rat} {p p' : Nat → Nat} (h : EchOf m n r A R p) (h' : EchOf m n r' A R' p') : r = r' ∧ (∀ i, i < r → p i = p' i) ∧ ∀ i j, i < r → j < n → R i j = R' i j :=
  h.ech.unique h'.ech (h.same.trans h'.same.symm)

set_option maxRecDepth 100000 in
theorem MatrixEchelons_ct {va vb : Value} {ra ca rb cb : Int} {na nb : Nat} {fa fb : Nat → Rat} (ha : Raw U va ra ca na fa) (hb : Raw U vb rb cb nb fb) :
    Ct Tryz.prog 4 [va, vb] G U M fun v _ _ => v = .bool true := by
  have ha0 := ha
  have hb0 := hb
  obtain ⟨ha1, ha2, ha3, _, rfl, pa, cca, asa, rfl, -⟩ := ha
  obtain ⟨hb1, hb2, hb3, _, rfl, pb, ccb, asb, rfl, -⟩ := hb
  refine ct_of_st Tryz.func4 rfl rfl rfl rfl ?_
  repeat (first | refine run_S ?_ | refine w_box (fun _ => ?_) | refine w_al (fun _ => ?_))
  rename_i b2 b3
  refine sl_call rfl rfl rfl rfl rfl rfl (fun _ => awake9_ct) ?_
  rintro v1 U1 D hU1 ⟨rfl, -, rfl⟩
  rw [List.nil_append]
  repeat (first | refine run_S ?_ | refine w_box (fun _ => ?_) | refine w_al (fun _ => ?_))
  refine sl_bslice (vs := [.agg #[.int .i64 ra, .int .i64 ca, .slice pa na cca], .agg #[.int .i64 rb, .int .i64 cb, .slice pb nb ccb]]) sym rfl rfl rfl rfl rfl rfl (all_size rfl) rfl rfl rfl rfl rfl rfl (fun bl => ?_)
  have hrl := (RowO.mk (e := TM) (s := 3) (b := bl) (n := 2) (vs := [.agg #[.int .i64 ra, .int .i64 ca, .slice pa na cca], .agg #[.int .i64 rb, .int .i64 cb, .slice pb nb ccb]]) rfl (all_size rfl) (by omega)).at (U := U1) (M := (bl, .arr [.agg #[.int .i64 ra, .int .i64 ca, .slice pa na cca], .agg #[.int .i64 rb, .int .i64 cb, .slice pb nb ccb]], TM) :: (b3, .var (.agg #[.int .i64 rb, .int .i64 cb, .slice pb nb ccb]), TM) :: (b2, .var (.agg #[.int .i64 ra, .int .i64 ca, .slice pa na cca]), TM) :: M) sb
  refine sl_call rfl rfl rfl rfl rfl rfl (fun _ => light_ct (most := 6) (r := fun k => if k = 0 then ra else rb) (c := fun k => if k = 0 then ca else cb) (n := fun k => if k = 0 then na else nb) (f := fun k => if k = 0 then fa else fb) (hrl.up uc sb) (two_rows (P := fun k v => Raw U1 v (if k = 0 then ra else rb) (if k = 0 then ca else cb) (if k = 0 then na else nb) (if k = 0 then fa else fb)) (ha0.up uc) (hb0.up uc)) (by decide) (by decide)) ?_
  rintro v2 U2 D hU2 ⟨b, rfl, hl, rfl, rfl⟩
  rw [List.nil_append]
  cases b
  · repeat (first | refine run_S ?_ | refine w_box (fun _ => ?_) | refine w_al (fun _ => ?_))
    exact sk_ret [] sym rfl (.cons (.tmp rfl) .nil) uc sb (.inl rfl) rfl
  have la : Lit 6 U1 _ ra ca na fa := hl rfl 0 _ rfl
  have lb : Lit 6 U1 _ rb cb nb fb := hl rfl 1 _ rfl
  clear hl hrl
  repeat (first | refine run_S ?_ | refine w_box (fun _ => ?_) | refine w_al (fun _ => ?_))
  refine sl_call rfl rfl rfl rfl rfl rfl (fun _ => m9Valid_ct (r := ra) (c := ca) (p := pa) (cc := cca) ha3) ?_
  rintro v U' D hU ⟨rfl, rfl, rfl⟩
  repeat (first | refine run_S ?_ | refine w_box (fun _ => ?_) | refine w_al (fun _ => ?_))
  by_cases hVa : Vld ra ca na
  · rw [decide_eq_true hVa]
    repeat (first | refine run_S ?_ | refine w_box (fun _ => ?_) | refine w_al (fun _ => ?_))
    refine sl_call rfl rfl rfl rfl rfl rfl (fun _ => m9Valid_ct (r := rb) (c := cb) (p := pb) (cc := ccb) hb3) ?_
    rintro v U' D hU ⟨rfl, rfl, rfl⟩
    repeat (first | refine run_S ?_ | refine w_box (fun _ => ?_) | refine w_al (fun _ => ?_))
    by_cases hVb : Vld rb cb nb
    · rw [decide_eq_true hVb]
      obtain ⟨m, n, rfl, rfl, hm6, hn6, hA⟩ := la.vm hVa
      obtain ⟨R, C, rfl, rfl, hR6, hC6, hB⟩ := lb.vm hVb
      generalize (fun i j => fa (i * n + j)) = A at hA
      generalize (fun i j => fb (i * C + j)) = B at hB
      have g1 := gro_small (k := 1) (n := m) (by omega) (by decide)
      have g2 := gro_small (k := 1) (n := n) (by omega) (by decide)
      have g3 := gro_small (k := 1) (n := R) (by omega) (by decide)
      have g4 := gro_small (k := 19) (n := R) (by omega) (by decide)
      have sA : ∀ i j, i < m → j < n → Szq (A i j) 1 := fun i j hi hj => hA.sz (Nat.le_refl 1) hi hj
      have hmn : ∀ {x y : Nat}, x ≤ 6 → y ≤ 6 → x * y ≤ 36 := fun hx hy => Nat.le_trans (Nat.mul_le_mul hx hy) (by decide)
      clear la lb
      repeat (first | refine run_S ?_ | refine w_box (fun _ => ?_) | refine w_al (fun _ => ?_))
      refine sl_call rfl rfl rfl rfl rfl rfl (fun _ => mEchelon_ct (kept_m kept_w _ _ _ _ uc hA) (Nat.le_refl 1) (by omega) (by omega) (by omega) (by omega)) ?_
      rintro v3 U3 D hU3 ⟨r, E1, p, vR, vp, rfl, h3, h4, rfl, e1, s1⟩
      rw [List.nil_append]
      obtain ⟨_, rfl, pr, cr, rs, rfl, -⟩ := id h3
      obtain ⟨pp, cp, ps, rfl, -⟩ := id h4
      repeat (first | refine run_S ?_ | refine w_box (fun _ => ?_) | refine w_al (fun _ => ?_))
      refine sl_call rfl rfl rfl rfl rfl rfl (fun _ => mRank_ct (kept_m kept_w _ _ _ _ uc hA) (Nat.le_refl 1) (by omega) (by omega) (by omega) (by omega)) ?_
      rintro v5 U5 D hU5 ⟨r2, E2, p2, rfl, e2, -, rfl⟩
      rw [List.nil_append]
      obtain ⟨q1, -, -⟩ := e1.unique e2
      obtain rfl := q1
      repeat (first | refine run_S ?_ | refine w_box (fun _ => ?_) | refine w_al (fun _ => ?_))
      refine sl_call rfl rfl rfl rfl rfl rfl (fun _ => m9Echelon_ct (kept_m kept_w _ _ _ _ uc hA) (Nat.le_refl 1) (by omega) (by omega) (by omega)) ?_
      rintro v6 U6 D hU6 ⟨r3, E3, p3, vR3, vp3, rfl, h6, h7, rfl, e3, s3⟩
      rw [List.nil_append]
      obtain ⟨q1, q2, q3⟩ := e1.unique e3
      obtain rfl := q1
      obtain ⟨_, rfl, pr3, cr3, rs3, rfl, -⟩ := id h6
      obtain ⟨pp3, cp3, ps3, rfl, -⟩ := id h7
      have hrm := e1.le
      have hrn := hmn (show r ≤ 6 by omega) hn6
      repeat (first | refine run_S ?_ | refine w_box (fun _ => ?_) | refine w_al (fun _ => ?_))
      refine sl_gdec rfl rfl (fun h => absurd rfl h) (fun _ => ?_)
      repeat (first | refine run_S ?_ | refine w_box (fun _ => ?_) | refine w_al (fun _ => ?_))
      refine sl_gdec rfl rfl (fun h => absurd rfl h) (fun _ => ?_)
      repeat (first | refine run_S ?_ | refine w_box (fun _ => ?_) | refine w_al (fun _ => ?_))
      refine sl_gdec rfl rfl (fun h => absurd rfl h) (fun _ => ?_)
      repeat (first | refine run_S ?_ | refine w_box (fun _ => ?_) | refine w_al (fun _ => ?_))
      refine sl_call rfl rfl rfl rfl rfl rfl (fun _ => bSameMatrix_ct (kept_m kept_q _ _ _ _ uc h3) (kept_m kept_q _ _ _ _ uc h6) (by omega) (by omega)) ?_
      rintro v8 U8 D hU8 ⟨b8, rfl, hb8, rfl, rfl⟩
      rw [List.nil_append]
      obtain rfl := hb8.2 ⟨rfl, rfl, q3⟩
      repeat (first | refine run_S ?_ | refine w_box (fun _ => ?_) | refine w_al (fun _ => ?_))
      refine sl_call rfl rfl rfl rfl rfl rfl (fun _ => bInts_ct (fun k : Nat => (k : Int)) (fun k : Nat => (k : Int)) (fun _ _ _ h => h) (fun _ _ _ h => h) (h4.ls kept_i uc) (h7.ls kept_i uc) (by omega) (by omega)) ?_
      rintro v9 U9 D hU9 ⟨b9, rfl, hb9, rfl, rfl⟩
      rw [List.nil_append]
      obtain rfl := hb9.2 ⟨rfl, fun i hi => by rw [q2 i hi]⟩
      repeat (first | refine run_S ?_ | refine w_box (fun _ => ?_) | refine w_al (fun _ => ?_))
      refine sl_call rfl rfl rfl rfl rfl rfl (fun _ => ct_setm (m9Transpose_ct (kept_m kept_w _ _ _ _ uc hA) (by omega) (by omega) (by omega))) ?_
      rintro vh10 Uh10 D hU ⟨h10, rfl⟩
      rw [List.nil_append]
      repeat (first | refine run_S ?_ | refine w_box (fun _ => ?_) | refine w_al (fun _ => ?_))
      refine sl_call rfl rfl rfl rfl rfl rfl (fun _ => mRank_ct (b := 1) (h10.w fun i j hi hj => sA j i hj hi) (Nat.le_refl 1) (by omega) (by omega) (by omega) (by omega)) ?_
      rintro v11 U11 D hU11 ⟨r4, E4, p4, rfl, e4, -, rfl⟩
      rw [List.nil_append]
      obtain rfl : r4 = r := Nat.le_antisymm (La.rank_tr e1.ech e1.same e4.ech e4.same) (La.rank_tr e4.ech e4.same e1.ech e1.same)
      repeat (first | refine run_S ?_ | refine w_box (fun _ => ?_) | refine w_al (fun _ => ?_))
      refine sl_gdec rfl rfl (fun h => absurd rfl h) (fun _ => ?_)
      repeat (first | refine run_S ?_ | refine w_box (fun _ => ?_) | refine w_al (fun _ => ?_))
      refine st_ne rfl (fun h => absurd rfl h) (fun _ => ?_)
      repeat (first | refine run_S ?_ | refine w_box (fun _ => ?_) | refine w_al (fun _ => ?_))
      refine st_draw [0, 1, 2, 3, 4, 5, 6, 7, 8, 9, 10, 11, 12, 13, 15, 16, 14, 17, 18] sym (by kernel_rfl) ?_
      repeat (first | refine run_S ?_ | refine w_box (fun _ => ?_) | refine w_al (fun _ => ?_))
      refine sl_gdec rfl rfl (fun h => ?_) (fun hRC => ?_)
      · repeat (first | refine run_S ?_ | refine w_box (fun _ => ?_) | refine w_al (fun _ => ?_))
        exact sk_ret [] sym rfl (.cons (.tmp rfl) .nil) uc sb (.inl rfl) rfl
      repeat (first | refine run_S ?_ | refine w_box (fun _ => ?_) | refine w_al (fun _ => ?_))
      refine sl_gdec rfl rfl (fun h => ?_) (fun hCm => ?_)
      · repeat (first | refine run_S ?_ | refine w_box (fun _ => ?_) | refine w_al (fun _ => ?_))
        exact sk_ret [] sym rfl (.cons (.tmp rfl) .nil) uc sb (.inl rfl) rfl
      obtain rfl : C = R := by omega
      obtain rfl : m = C := by omega
      repeat (first | refine run_S ?_ | refine w_box (fun _ => ?_) | refine w_al (fun _ => ?_))
      refine sl_call rfl rfl rfl rfl rfl rfl (fun _ => m9Rank_ct (kept_m kept_w _ _ _ _ uc hB) (Nat.le_refl 1) (by omega) (by omega) (by omega)) ?_
      rintro v12 U12 D hU12 ⟨r5, E5, p5, rfl, e5, -, rfl⟩
      rw [List.nil_append]
      repeat (first | refine run_S ?_ | refine w_box (fun _ => ?_) | refine w_al (fun _ => ?_))
      refine st_dec rfl (fun h => ?_) (fun hr5 => ?_)
      · repeat (first | refine run_S ?_ | refine w_box (fun _ => ?_) | refine w_al (fun _ => ?_))
        exact sk_ret [] sym rfl (.cons (.tmp rfl) .nil) uc sb (.inl rfl) rfl
      have hr5m := e5.le
      obtain rfl : r5 = m := by omega
      have sB : ∀ i j, i < r5 → j < r5 → Szq (B i j) 1 := fun i j hi hj => hB.sz (Nat.le_refl 1) hi hj
      repeat (first | refine run_S ?_ | refine w_box (fun _ => ?_) | refine w_al (fun _ => ?_))
      refine sl_call rfl rfl rfl rfl rfl rfl (fun _ => m9Mul_ct (b := 1) (kept_m kept_w _ _ _ _ uc hB) (kept_m kept_w _ _ _ _ uc hA) (Nat.le_refl 1) (by omega) (by omega) (by omega) (by omega) (by omega)) ?_
      rintro vh13 Uh13 D hU ⟨h13, rfl⟩
      rw [List.nil_append]
      repeat (first | refine run_S ?_ | refine w_box (fun _ => ?_) | refine w_al (fun _ => ?_))
      have sM : ∀ i j, i < r5 → j < n → Szq (La.mm r5 B A i j) 19 := fun i j hi hj => (szq_mm (fun k hk => sB i k hi hk) (fun k hk => sA k j hk hj)).mono (by omega)
      refine sl_call rfl rfl rfl rfl rfl rfl (fun _ => mEchelon_ct (b := 19) (h13.w sM) (by decide) (by omega) (by omega) (by omega) (by omega)) ?_
      rintro v14 U14 D hU14 ⟨r6, E6, p6, vR6, vp6, rfl, h14, h15, rfl, e6, s6⟩
      rw [List.nil_append]
      obtain ⟨q4, q5, q6⟩ := e1.unique (⟨e6.ech, e6.same.trans (La.same_mul e5.ech e5.same A), e6.le⟩ : EchOf r5 n r6 A E6 p6)
      obtain rfl := q4
      obtain ⟨_, rfl, pr6, cr6, rs6, rfl, -⟩ := id h14
      obtain ⟨pp6, cp6, ps6, rfl, -⟩ := id h15
      repeat (first | refine run_S ?_ | refine w_box (fun _ => ?_) | refine w_al (fun _ => ?_))
      refine sl_gdec rfl rfl (fun _ => ?_) (fun h => absurd rfl h)
      repeat (first | refine run_S ?_ | refine w_box (fun _ => ?_) | refine w_al (fun _ => ?_))
      refine sl_call rfl rfl rfl rfl rfl rfl (fun _ => bSameMatrix_ct (kept_m kept_q _ _ _ _ uc h14) (kept_m kept_q _ _ _ _ uc h3) (by omega) (by omega)) ?_
      rintro v16 U16 D hU16 ⟨b16, rfl, hb16, rfl, rfl⟩
      rw [List.nil_append]
      obtain rfl := hb16.2 ⟨rfl, rfl, fun i j hi hj => (q6 i j hi hj).symm⟩
      repeat (first | refine run_S ?_ | refine w_box (fun _ => ?_) | refine w_al (fun _ => ?_))
      exact sk_ret [] sym rfl (.cons (.tmp rfl) .nil) uc sb (.inl rfl) rfl
    · rw [decide_eq_false hVb]
      repeat (first | refine run_S ?_ | refine w_box (fun _ => ?_) | refine w_al (fun _ => ?_))
      exact sk_ret [] sym rfl (.cons (.tmp rfl) .nil) uc sb (.inl rfl) rfl
  · rw [decide_eq_false hVa]
    repeat (first | refine run_S ?_ | refine w_box (fun _ => ?_) | refine w_al (fun _ => ?_))
    exact sk_ret [] sym rfl (.cons (.tmp rfl) .nil) uc sb (.inl rfl) rfl

end Go.Proofs.YtcfgogamamdipaaGreat
