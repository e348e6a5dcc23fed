/- Laws of layer 10: complements and annihilators. -/
import Derived.Test.YtocjmbilepbokaaGreatB147
namespace Go.Proofs.YtocjmbilepbokaaGreat
open Go.Hp
variable {G : World} {U U' : UH} {M M' : MH}

theorem dual_back {n a s t : Nat} {A N B : Nat → Nat → Rat} {pa q1 q2 : Nat → Nat} (hA : La.Ech a n A pa) (k1 : La.KerOf n a s (La.tr A) N q1) (k2 : La.KerOf n s t (La.tr N) B q2) (v : Nat → Rat) : La.Sp t n B v ↔ La.Sp a n A v := by
  rw [← k2.sp, La.perp_perp hA, La.ker_dot]
  constructor
  · intro h y hy
    rw [La.dot_comm]
    exact La.dot_sp ((k1.sp y).1 hy) fun i hi => by rw [La.dot_comm]; exact h i hi
  · exact fun h i hi => h _ ((k1.sp _).2 (La.Sp.row hi))

theorem dual_sum {n a b s d s1 s2 : Nat} {A B S D N1 N2 : Nat → Nat → Rat} {qd q1 q2 : Nat → Nat} (mS : La.Same s (a + b) n S (La.stack a A B)) (kS : La.KerOf n s d (La.tr S) D qd) (kA : La.KerOf n a s1 (La.tr A) N1 q1) (kB : La.KerOf n b s2 (La.tr B) N2 q2) (v : Nat → Rat) :
    La.Sp d n D v ↔ La.Sp s1 n N1 v ∧ La.Sp s2 n N2 v := by
  rw [← kS.sp, ← kA.sp, ← kB.sp, La.ker_dot, La.ker_dot, La.ker_dot]
  constructor
  · intro h
    have h1 : ∀ x, La.Sp s n S x → La.dot n v x = 0 := fun x hx => by
      rw [La.dot_comm]
      exact La.dot_sp hx fun i hi => by rw [La.dot_comm]; exact h i hi
    exact ⟨fun i hi => h1 _ (mS.sp.2 (La.sp_left (La.Sp.row hi))), fun i hi => h1 _ (mS.sp.2 (La.sp_right (La.Sp.row hi)))⟩
  · rintro ⟨h1, h2⟩ i hi
    rw [La.dot_comm]
    refine La.dot_sp (mS.lt i hi) fun k hk => ?_
    rw [La.dot_comm]
    by_cases e : k < a
    · rw [La.stack_lt e]; exact h1 k e
    · rw [show k = a + (k - a) by omega, La.stack_add]; exact h2 _ (by omega)

set_option maxHeartbeats 2000000 in
set_option maxRecDepth 100000 in
theorem SubspaceDuals_ct {va vb : Value} {da ra ca db rb cb : Int} {na nb : Nat} {fa fb : Nat → Rat} (ha : RawS U va da ra ca na fa) (hb : RawS U vb db rb cb nb fb) :
    Ct Tryz.prog 7 [va, vb] G U M fun v _ _ => v = .bool true := by
  have ha0 := ha
  have hb0 := hb
  obtain ⟨-, _, rfl, -, -, hna, _, he, pa, cca, asa, rfl, -⟩ := ha
  simp only [Value.agg.injEq, Array.mk.injEq, List.cons.injEq, and_true, true_and] at he
  subst he
  obtain ⟨-, _, rfl, -, -, hnb, _, he, pb, ccb, asb, rfl, -⟩ := hb
  simp only [Value.agg.injEq, Array.mk.injEq, List.cons.injEq, and_true, true_and] at he
  subst he
  refine ct_of_st Tryz.func7 rfl rfl rfl rfl ?_
  repeat (first | refine run_S ?_ | refine w_box (fun _ => ?_) | refine w_al (fun _ => ?_))
  rename_i b2 b3
  refine sl_call rfl rfl rfl rfl rfl rfl (fun _ => awake10_ct) ?_
  rintro v1 U1 D1 hU1 ⟨rfl, -, rfl⟩
  try rw [List.nil_append]
  repeat (first | refine run_S ?_ | refine w_box (fun _ => ?_) | refine w_al (fun _ => ?_))
  refine sl_bslice (vs := [.agg #[.int .i64 da, .int .i64 ra, .int .i64 ca, .slice pa na cca], .agg #[.int .i64 db, .int .i64 rb, .int .i64 cb, .slice pb nb ccb]]) sym rfl rfl rfl rfl rfl rfl (all_size rfl) rfl rfl rfl rfl rfl rfl (fun bl => ?_)
  have hrl := (RowO.mk (e := TS) (s := 4) (b := bl) (n := 2) (vs := [.agg #[.int .i64 da, .int .i64 ra, .int .i64 ca, .slice pa na cca], .agg #[.int .i64 db, .int .i64 rb, .int .i64 cb, .slice pb nb ccb]]) rfl (all_size rfl) (by omega)).at (U := U1) (M := (bl, .arr [.agg #[.int .i64 da, .int .i64 ra, .int .i64 ca, .slice pa na cca], .agg #[.int .i64 db, .int .i64 rb, .int .i64 cb, .slice pb nb ccb]], TS) :: (b3, .var (.agg #[.int .i64 db, .int .i64 rb, .int .i64 cb, .slice pb nb ccb]), TS) :: (b2, .var (.agg #[.int .i64 da, .int .i64 ra, .int .i64 ca, .slice pa na cca]), TS) :: M) sb
  refine sl_call rfl rfl rfl rfl rfl rfl (fun _ => fit_ct (U := U1) (d := fun k => if k = 0 then da else db) (r := fun k => if k = 0 then ra else rb) (c := fun k => if k = 0 then ca else cb) (n := fun k => if k = 0 then na else nb) (f := fun k => if k = 0 then fa else fb) (hrl.up uc sb) (two_rows (P := fun k v => RawS U1 v (if k = 0 then da else db) (if k = 0 then ra else rb) (if k = 0 then ca else cb) (if k = 0 then na else nb) (if k = 0 then fa else fb)) (ha0.up uc) (hb0.up uc)) (by decide)) ?_
  rintro v2 U2 D2 hU2 ⟨rfl, b, rfl, hl⟩
  try rw [List.nil_append]
  cases b
  · repeat (first | refine run_S ?_ | refine w_box (fun _ => ?_) | refine w_al (fun _ => ?_))
    exact sk_ret [] sym rfl (.cons (.tmp rfl) .nil) uc sb (.inl rfl) rfl
  obtain ⟨la, va1, -, -⟩ : LitS U2 _ da ra ca na fa ∧ VldS da ra ca na fa ∧ da = da ∧ da ≤ 6 := hl rfl 0 _ rfl
  obtain ⟨lb, vb1, hd, -⟩ : LitS U2 _ db rb cb nb fb ∧ VldS db rb cb nb fb ∧ db = da ∧ db ≤ 6 := hl rfl 1 _ rfl
  clear hl hrl ha0 hb0
  obtain ⟨Ra, n, qa, rfl, rfl, rfl, rfl, hRa, hn, sav, eA, wA⟩ := va1.get' la
  obtain ⟨Rb, n2, qb, rfl, rfl, rfl, rfl, hRb, -, sbv, eB, wB⟩ := vb1.get' lb
  obtain rfl : n = n2 := by omega
  generalize (fun i j => fa (i * n + j)) = A at sav eA wA
  generalize (fun i j => fb (i * n + j)) = B at sbv eB wB
  clear hd va1 vb1 la lb
  have hran : Ra * n ≤ 6 * 6 := Nat.mul_le_mul hRa hn
  repeat (first | refine run_S ?_ | refine w_box (fun _ => ?_) | refine w_al (fun _ => ?_))
  refine sl_call rfl rfl rfl rfl rfl rfl (fun _ => sComplement_ok (kept_s kept_w _ _ _ _ uc sav) eA (by decide) (by decide) hn) ?_
  rintro v3 U3 D3 hU3 ⟨_, m, f, rfl, hC, cC, hm, rfl⟩
  try rw [List.nil_append]
  have hmn : m * n ≤ 6 * 6 := Nat.mul_le_mul (by omega) hn
  obtain ⟨_, rfl, p3, c3, s3, rfl, -⟩ := id hC
  repeat (first | refine run_S ?_ | refine w_box (fun _ => ?_) | refine w_al (fun _ => ?_))
  refine sl_call rfl rfl rfl rfl rfl rfl (fun _ => sAnnihilator_ok (kept_s kept_w _ _ _ _ uc sav) eA (by decide) (by decide) hn) ?_
  rintro v4 U4 D4 hU4 ⟨_, s1, N1, q1, rfl, h4, k1, rfl⟩
  try rw [List.nil_append]
  have hs1 := Nat.le_trans k1.ech.le_n hn
  have hs1n : s1 * n ≤ 6 * 6 := Nat.mul_le_mul hs1 hn
  have w1 := ((wA.perp eA k1).hw k1.ech hn).mono (show 6 * (1 * 37 + 1) + 1 ≤ 229 by decide)
  have h4w := h4.w fun i j hi hj => w1.szq (by decide) hi hj
  obtain ⟨_, rfl, p4, c4, s4, rfl, -⟩ := id h4
  repeat (first | refine run_S ?_ | refine w_box (fun _ => ?_) | refine w_al (fun _ => ?_))
  refine sl_call rfl rfl rfl rfl rfl rfl (fun _ => sAnnihilator_ok (kept_s kept_w _ _ _ _ uc sbv) eB (by decide) (by decide) hn) ?_
  rintro v5 U5 D5 hU5 ⟨_, s2, N2, q2, rfl, h5, k2, rfl⟩
  try rw [List.nil_append]
  have w2 := ((wB.perp eB k2).hw k2.ech hn).mono (show 6 * (1 * 37 + 1) + 1 ≤ 229 by decide)
  have h5w := h5.w fun i j hi hj => w2.szq (by decide) hi hj
  obtain ⟨_, rfl, p5, c5, s5, rfl, -⟩ := id h5
  repeat (first | refine run_S ?_ | refine w_box (fun _ => ?_) | refine w_al (fun _ => ?_))
  refine st_draw [0, 1, 2, 3, 4, 5, 6, 7, 8, 9, 10, 11, 12, 13, 14, 15, 16, 17, 18, 19, 20, 21, 22, 23] sym (by kernel_rfl) ?_
  repeat (first | refine run_S ?_ | refine w_box (fun _ => ?_) | refine w_al (fun _ => ?_))
  refine sl_gdec rfl rfl (fun h => absurd rfl h) (fun _ => ?_)
  repeat (first | refine run_S ?_ | refine w_box (fun _ => ?_) | refine w_al (fun _ => ?_))
  refine sl_gdec rfl rfl (fun h => absurd rfl h) (fun _ => ?_)
  repeat (first | refine run_S ?_ | refine w_box (fun _ => ?_) | refine w_al (fun _ => ?_))
  refine sl_gdec rfl rfl (fun h => absurd rfl h) (fun _ => ?_)
  repeat (first | refine run_S ?_ | refine w_box (fun _ => ?_) | refine w_al (fun _ => ?_))
  refine sl_call rfl rfl rfl rfl rfl rfl (fun _ => r10Complement_ct (kept_s kept_w _ _ _ _ uc sav) eA (by decide) (by decide) hn) ?_
  rintro v6 U6 D6 hU6 ⟨m', f', hC', cC', hm', rfl⟩
  try rw [List.nil_append]
  have hmn' : m' * n ≤ 6 * 6 := Nat.mul_le_mul (by omega) hn
  refine sl_call rfl rfl rfl rfl rfl rfl (fun _ => bSameSpace_ct (kept_s kept_q _ _ _ _ uc hC) (kept_s kept_q _ _ _ _ uc hC') (by omega) (by omega)) ?_
  rintro v7 U7 D7 hU7 ⟨b, rfl, hb, rfl, rfl⟩
  try rw [List.nil_append]
  obtain rfl := hb.2 (by
    obtain ⟨g1, g2⟩ := cC.unique cC'
    exact ⟨g1, rfl, fun i j hi hj => by rw [g2 i hi]⟩)
  repeat (first | refine run_S ?_ | refine w_box (fun _ => ?_) | refine w_al (fun _ => ?_))
  refine sl_call rfl rfl rfl rfl rfl rfl (fun _ => r10Ann_ct (kept_s kept_w _ _ _ _ uc sav) eA wA (by decide) (by decide) (by decide) hn) ?_
  rintro v8 U8 D8 hU8 ⟨s1', N1', q1', h4', k1', rfl⟩
  try rw [List.nil_append]
  have hs1n' : s1' * n ≤ 6 * 6 := Nat.mul_le_mul (Nat.le_trans k1'.ech.le_n hn) hn
  refine sl_call rfl rfl rfl rfl rfl rfl (fun _ => bSameSpace_ct (kept_s kept_q _ _ _ _ uc h4) (kept_s kept_q _ _ _ _ uc h4') (by omega) (by omega)) ?_
  rintro v9 U9 D9 hU9 ⟨b, rfl, hb, rfl, rfl⟩
  try rw [List.nil_append]
  obtain rfl := hb.2 (by
    obtain ⟨g1, -, g2⟩ := k1.unique k1'
    exact ⟨g1, rfl, g2⟩)
  repeat (first | refine run_S ?_ | refine w_box (fun _ => ?_) | refine w_al (fun _ => ?_))
  refine sl_call rfl rfl rfl rfl rfl rfl (fun _ => sAnnihilator_ok (b := 229) (kept_s kept_w _ _ _ _ uc h4w) k1.ech (by decide) (by decide) hn) ?_
  rintro v10 U10 D10 hU10 ⟨_, s3', N3, q3, rfl, h10, k3, rfl⟩
  try rw [List.nil_append]
  have hs3n : s3' * n ≤ 6 * 6 := Nat.mul_le_mul (Nat.le_trans k3.ech.le_n hn) hn
  obtain ⟨_, rfl, p10, c10, s10, rfl, -⟩ := id h10
  repeat (first | refine run_S ?_ | refine w_box (fun _ => ?_) | refine w_al (fun _ => ?_))
  refine sl_call rfl rfl rfl rfl rfl rfl (fun _ => sSum_ok (kept_s kept_w _ _ _ _ uc sav) (kept_s kept_w _ _ _ _ uc sbv) eA eB (by decide) (by decide) hn) ?_
  rintro v11 U11 D11 hU11 ⟨_, s, S, ps, rfl, hS, eS, mS, rfl⟩
  try rw [List.nil_append]
  have wS := ((Gw.sum wA.gen wB.gen mS).hw eS hn).mono (show 6 * (1 * 37 + 1) + 1 ≤ 229 by decide)
  have hSw := hS.w fun i j hi hj => wS.szq (by decide) hi hj
  obtain ⟨_, rfl, p11, c11, s11, rfl, -⟩ := id hS
  repeat (first | refine run_S ?_ | refine w_box (fun _ => ?_) | refine w_al (fun _ => ?_))
  refine sl_call rfl rfl rfl rfl rfl rfl (fun _ => sAnnihilator_ok (b := 229) (kept_s kept_w _ _ _ _ uc hSw) eS (by decide) (by decide) hn) ?_
  rintro v12 U12 D12 hU12 ⟨_, d, Dm, qd, rfl, h12, kD, rfl⟩
  try rw [List.nil_append]
  have hdn : d * n ≤ 6 * 6 := Nat.mul_le_mul (Nat.le_trans kD.ech.le_n hn) hn
  obtain ⟨_, rfl, p12, c12, s12, rfl, -⟩ := id h12
  repeat (first | refine run_S ?_ | refine w_box (fun _ => ?_) | refine w_al (fun _ => ?_))
  refine sl_call rfl rfl rfl rfl rfl rfl (fun _ => sIntersect_ok (w := 229) (b := 229) (kept_s kept_w _ _ _ _ uc h4w) (kept_s kept_w _ _ _ _ uc h5w) k1.ech k2.ech w1 w2 (by decide) (by decide) (by decide) hn) ?_
  rintro v13 U13 D13 hU13 ⟨_, i, I, pi, rfl, hI, eI, mI, -, rfl⟩
  try rw [List.nil_append]
  have hin : i * n ≤ 6 * 6 := Nat.mul_le_mul (Nat.le_trans eI.le_n hn) hn
  obtain ⟨_, rfl, p13, c13, s13, rfl, -⟩ := id hI
  repeat (first | refine run_S ?_ | refine w_box (fun _ => ?_) | refine w_al (fun _ => ?_))
  refine sl_call rfl rfl rfl rfl rfl rfl (fun _ => sSum_ok (kept_s kept_w _ _ _ _ uc sav) ((kept_s kept_q _ _ _ _ uc hC).w fun i j hi hj => (by show Szq (if f i = j then (1 : Rat) else 0) 1; split; exact szq_int1; exact szq_int0)) eA (La.cols_ech cC) (by decide) (by decide) hn) ?_
  rintro v14 U14 D14 hU14 ⟨_, t, W, pw, rfl, hW, eW, mW, rfl⟩
  try rw [List.nil_append]
  obtain ⟨ht, hrm⟩ := La.cols_dim eA cC eW mW
  obtain ⟨_, rfl, p14, c14, s14, rfl, -⟩ := id hW
  repeat (first | refine run_S ?_ | refine w_box (fun _ => ?_) | refine w_al (fun _ => ?_))
  refine sl_gdec rfl rfl (fun h => absurd rfl h) (fun _ => ?_)
  repeat (first | refine run_S ?_ | refine w_box (fun _ => ?_) | refine w_al (fun _ => ?_))
  refine sl_gdec rfl rfl (fun h => absurd rfl h) (fun _ => ?_)
  repeat (first | refine run_S ?_ | refine w_box (fun _ => ?_) | refine w_al (fun _ => ?_))
  refine sl_gdec rfl rfl (fun h => absurd rfl h) (fun _ => ?_)
  repeat (first | refine run_S ?_ | refine w_box (fun _ => ?_) | refine w_al (fun _ => ?_))
  refine sl_gdec rfl rfl (fun h => absurd rfl h) (fun _ => ?_)
  repeat (first | refine run_S ?_ | refine w_box (fun _ => ?_) | refine w_al (fun _ => ?_))
  refine sl_gdec rfl rfl (fun h => absurd (by omega) h) (fun _ => ?_)
  repeat (first | refine run_S ?_ | refine w_box (fun _ => ?_) | refine w_al (fun _ => ?_))
  refine st_ne rfl (fun h => absurd (by omega) h) (fun _ => ?_)
  repeat (first | refine run_S ?_ | refine w_box (fun _ => ?_) | refine w_al (fun _ => ?_))
  refine st_draw [0, 1, 2, 3, 4, 5, 6, 7, 8, 9, 10] sym (by kernel_rfl) ?_
  repeat (first | refine run_S ?_ | refine w_box (fun _ => ?_) | refine w_al (fun _ => ?_))
  refine sl_call rfl rfl rfl rfl rfl rfl (fun _ => r10Span_ct (b := 1) (kept_m kept_w _ _ _ _ uc sav.vm) (by decide) (by decide) hn (by omega)) ?_
  rintro v15 U15 D15 hU15 ⟨u, Y, qy, hY, eY, mY, rfl⟩
  try rw [List.nil_append]
  have hun : u * n ≤ 6 * 6 := Nat.mul_le_mul (Nat.le_trans eY.le_n hn) hn
  refine sl_call rfl rfl rfl rfl rfl rfl (fun _ => bSameSpace_ct (kept_s kept_q _ _ _ _ uc h10) (kept_s kept_q _ _ _ _ uc hY) (by omega) (by omega)) ?_
  rintro v16 U16 D16 hU16 ⟨b, rfl, hb, rfl, rfl⟩
  try rw [List.nil_append]
  obtain rfl := hb.2 (same_spans k3.ech eY fun v => (dual_back eA k1 k3 v).trans mY.sp.symm)
  repeat (first | refine run_S ?_ | refine w_box (fun _ => ?_) | refine w_al (fun _ => ?_))
  refine sl_call rfl rfl rfl rfl rfl rfl (fun _ => bSameSpace_ct (kept_s kept_q _ _ _ _ uc h12) (kept_s kept_q _ _ _ _ uc hI) (by omega) (by omega)) ?_
  rintro v17 U17 D17 hU17 ⟨b, rfl, hb, rfl, rfl⟩
  try rw [List.nil_append]
  obtain rfl := hb.2 (same_spans kD.ech eI fun v => (dual_sum mS kD k1 k2 v).trans (mI v).symm)
  repeat (first | refine run_S ?_ | refine w_box (fun _ => ?_) | refine w_al (fun _ => ?_))
  exact sk_ret [] sym rfl (.cons (.tmp rfl) .nil) uc sb (.inl rfl) rfl

end Go.Proofs.YtocjmbilepbokaaGreat
