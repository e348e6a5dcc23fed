/- The law of layer 13 on reductions and what is made of them. -/
import Derived.Test.YtpigpikhjlmdoaaGreatB188
import Derived.Test.YtpigpikhjlmdoaaGreatM23
import Derived.Test.YtpigpikhjlmdoaaGreatM47
namespace Go.Proofs.YtpigpikhjlmdoaaGreat
open Go.Hp
open Go.Fq (Pm Fp Prm)
variable {G : World} {U U' : UH} {M M' : MH}
set_option maxRecDepth 100000 in
set_option maxHeartbeats 4000000 in
theorem ModmatrixReduction_ct {z : Int} {va vb : Value} {ra ca rb cb : Int} {na nb : Nat} {fa fb : Nat → Rat} (_ : -9223372036854775808 ≤ z) (_ : z ≤ 9223372036854775807) (ha : Raw U va ra ca na fa) (hb : Raw U vb rb cb nb fb) :
    Ct Tryz.prog 6 [.int .i64 z, va, vb] G U M fun v _ _ => v = .bool true := by
  obtain ⟨ha1, ha2, ha3, _, rfl, pa, cca, xsa, rfl, hca, rw1, el1⟩ := ha
  obtain ⟨hb1, hb2, hb3, _, rfl, pb, ccb, xsb, rfl, hcb, rw2, el2⟩ := hb
  refine ct_of_st Tryz.func6 rfl rfl rfl rfl ?_
  repeat (first | refine run_S ?_ | refine w_box (fun _ => ?_) | refine w_al (fun _ => ?_))
  rename_i b4 b5
  refine sl_call rfl rfl rfl rfl rfl rfl (fun _ => awake13_ct) ?_
  rintro v1 U1 D hU1 ⟨rfl, -, rfl⟩
  rw [List.nil_append]
  repeat (first | refine run_S ?_ | refine w_box (fun _ => ?_) | refine w_al (fun _ => ?_))
  refine sl_call rfl rfl rfl rfl rfl rfl (fun _ => z4Modulus_ct (z := z)) ?_
  rintro v U' D hU ⟨rfl, rfl, rfl⟩
  repeat (first | refine run_S ?_ | refine w_box (fun _ => ?_) | refine w_al (fun _ => ?_))
  cases hP : modP z
  · repeat (first | refine run_S ?_ | refine w_box (fun _ => ?_) | refine w_al (fun _ => ?_))
    exact sk_ret [] sym rfl (.cons (.tmp rfl) .nil) uc sb (.inl rfl) rfl
  obtain ⟨P, rfl, hp⟩ := modP_get hP
  repeat (first | refine run_S ?_ | refine w_box (fun _ => ?_) | refine w_al (fun _ => ?_))
  refine sl_call rfl rfl rfl rfl rfl rfl (fun _ => m9Valid_ct (r := ra) (c := ca) (p := pa) (cc := cca) ha3) ?_
  rintro v U' D hU ⟨rfl, rfl, rfl⟩
  repeat (first | refine run_S ?_ | refine w_box (fun _ => ?_) | refine w_al (fun _ => ?_))
  by_cases hVa : Vld ra ca na
  rotate_left
  · rw [decide_eq_false hVa]
    repeat (first | refine run_S ?_ | refine w_box (fun _ => ?_) | refine w_al (fun _ => ?_))
    exact sk_ret [] sym rfl (.cons (.tmp rfl) .nil) uc sb (.inl rfl) rfl
  rw [decide_eq_true hVa]
  repeat (first | refine run_S ?_ | refine w_box (fun _ => ?_) | refine w_al (fun _ => ?_))
  refine sl_call rfl rfl rfl rfl rfl rfl (fun _ => m9Valid_ct (r := rb) (c := cb) (p := pb) (cc := ccb) hb3) ?_
  rintro v U' D hU ⟨rfl, rfl, rfl⟩
  repeat (first | refine run_S ?_ | refine w_box (fun _ => ?_) | refine w_al (fun _ => ?_))
  by_cases hVb : Vld rb cb nb
  rotate_left
  · rw [decide_eq_false hVb]
    repeat (first | refine run_S ?_ | refine w_box (fun _ => ?_) | refine w_al (fun _ => ?_))
    exact sk_ret [] sym rfl (.cons (.tmp rfl) .nil) uc sb (.inl rfl) rfl
  rw [decide_eq_true hVb]
  repeat (first | refine run_S ?_ | refine w_box (fun _ => ?_) | refine w_al (fun _ => ?_))
  refine sl_gdec rfl rfl (fun h => ?_) (fun g1 => ?_)
  · repeat (first | refine run_S ?_ | refine w_box (fun _ => ?_) | refine w_al (fun _ => ?_))
    exact sk_ret [] sym rfl (.cons (.tmp rfl) .nil) uc sb (.inl rfl) rfl
  repeat (first | refine run_S ?_ | refine w_box (fun _ => ?_) | refine w_al (fun _ => ?_))
  refine sl_gdec rfl rfl (fun h => ?_) (fun g2 => ?_)
  · repeat (first | refine run_S ?_ | refine w_box (fun _ => ?_) | refine w_al (fun _ => ?_))
    exact sk_ret [] sym rfl (.cons (.tmp rfl) .nil) uc sb (.inl rfl) rfl
  repeat (first | refine run_S ?_ | refine w_box (fun _ => ?_) | refine w_al (fun _ => ?_))
  refine sl_gdec rfl rfl (fun h => ?_) (fun g3 => ?_)
  · repeat (first | refine run_S ?_ | refine w_box (fun _ => ?_) | refine w_al (fun _ => ?_))
    exact sk_ret [] sym rfl (.cons (.tmp rfl) .nil) uc sb (.inl rfl) rfl
  repeat (first | refine run_S ?_ | refine w_box (fun _ => ?_) | refine w_al (fun _ => ?_))
  refine sl_gdec rfl rfl (fun h => ?_) (fun g4 => ?_)
  · repeat (first | refine run_S ?_ | refine w_box (fun _ => ?_) | refine w_al (fun _ => ?_))
    exact sk_ret [] sym rfl (.cons (.tmp rfl) .nil) uc sb (.inl rfl) rfl
  repeat (first | refine run_S ?_ | refine w_box (fun _ => ?_) | refine w_al (fun _ => ?_))
  refine sl_call rfl rfl rfl rfl rfl rfl (fun _ => short13_ct (rw1.up uc sb) (el1.up kept_x uc) ha3) ?_
  rintro v2 U2 D hU2 ⟨b, rfl, hw1, rfl, rfl⟩
  rw [List.nil_append]
  cases b
  · repeat (first | refine run_S ?_ | refine w_box (fun _ => ?_) | refine w_al (fun _ => ?_))
    exact sk_ret [] sym rfl (.cons (.tmp rfl) .nil) uc sb (.inl rfl) rfl
  replace hw1 := hw1 rfl
  clear el1
  repeat (first | refine run_S ?_ | refine w_box (fun _ => ?_) | refine w_al (fun _ => ?_))
  refine sl_call rfl rfl rfl rfl rfl rfl (fun _ => short13_ct (rw2.up uc sb) (el2.up kept_x uc) hb3) ?_
  rintro v2 U2 D hU2 ⟨b, rfl, hw2, rfl, rfl⟩
  rw [List.nil_append]
  cases b
  · repeat (first | refine run_S ?_ | refine w_box (fun _ => ?_) | refine w_al (fun _ => ?_))
    exact sk_ret [] sym rfl (.cons (.tmp rfl) .nil) uc sb (.inl rfl) rfl
  replace hw2 := hw2 rfl
  clear el2
  obtain ⟨k1, k2, k3, k4, k5⟩ := id hVa
  obtain ⟨l1, l2, l3, l4, l5⟩ := id hVb
  obtain ⟨ma, rfl⟩ : ∃ R : Nat, ra = (R : Int) := ⟨ra.toNat, by omega⟩
  obtain ⟨ka, rfl⟩ : ∃ C : Nat, ca = (C : Int) := ⟨ca.toNat, by omega⟩
  obtain ⟨mb, rfl⟩ : ∃ R : Nat, rb = (R : Int) := ⟨rb.toNat, by omega⟩
  obtain ⟨kb, rfl⟩ : ∃ C : Nat, cb = (C : Int) := ⟨cb.toNat, by omega⟩
  obtain rfl : na = ma * ka := by rw [← Int.natCast_mul] at k5; omega
  obtain rfl : nb = mb * kb := by rw [← Int.natCast_mul] at l5; omega
  have hma : ma ≤ 5 := by omega
  have hka : ka ≤ 5 := by omega
  have hmb : mb ≤ 5 := by omega
  have hkb : kb ≤ 5 := by omega
  have hmk : ma * ka ≤ 5 * 5 := Nat.mul_le_mul hma hka
  have hmk2 : mb * kb ≤ 5 * 5 := Nat.mul_le_mul hmb hkb
  have hmk3 : ma * kb ≤ 5 * 5 := Nat.mul_le_mul hma hkb
  clear hVa hVb hP k1 k2 k3 k4 k5 l1 l2 l3 l4 l5 g1 g2 g3 g4
  repeat (first | refine run_S ?_ | refine w_box (fun _ => ?_) | refine w_al (fun _ => ?_))
  refine sl_call rfl rfl rfl rfl rfl rfl (fun _ => fReduceM_ct (P := P) (rw1.up uc (List.nil_sublist _)) (hw1.up kept_w uc) hp (by omega) (by omega)) ?_
  rintro v3 U3 D hU3 ⟨vm, e, rfl, rfl, h3⟩
  rw [List.nil_append]
  rcases h3 with ⟨-, rfl, rfl⟩ | ⟨hLa, rfl, h3⟩
  · repeat (first | refine run_S ?_ | refine w_box (fun _ => ?_) | refine w_al (fun _ => ?_))
    refine sl_call rfl rfl rfl rfl rfl rfl (fun _ => fReduceM_ct (P := P) (rw2.up uc (List.nil_sublist _)) (hw2.up kept_w uc) hp (by omega) (by omega)) ?_
    rintro v4 U4 D hU4 ⟨vm, e, rfl, rfl, h4⟩
    rw [List.nil_append]
    rcases h4 with ⟨-, rfl, rfl⟩ | ⟨-, rfl, h4⟩
    · repeat (first | refine run_S ?_ | refine w_box (fun _ => ?_) | refine w_al (fun _ => ?_))
      refine sl_gdec rfl rfl (fun _ => ?_) (fun h => absurd (by decide) h)
      repeat (first | refine run_S ?_ | refine w_box (fun _ => ?_) | refine w_al (fun _ => ?_))
      refine sl_gdec rfl rfl (fun _ => ?_) (fun h => absurd rfl h)
      repeat (first | refine run_S ?_ | refine w_box (fun _ => ?_) | refine w_al (fun _ => ?_))
      exact sk_ret [] sym rfl (.cons (.tmp rfl) .nil) uc sb (.inl rfl) rfl
    · obtain ⟨_, rfl, p4, c4, us4, rfl, -⟩ := id h4
      repeat (first | refine run_S ?_ | refine w_box (fun _ => ?_) | refine w_al (fun _ => ?_))
      refine sl_gdec rfl rfl (fun _ => ?_) (fun h => absurd (by decide) h)
      repeat (first | refine run_S ?_ | refine w_box (fun _ => ?_) | refine w_al (fun _ => ?_))
      refine sl_gdec rfl rfl (fun _ => ?_) (fun h => absurd rfl h)
      repeat (first | refine run_S ?_ | refine w_box (fun _ => ?_) | refine w_al (fun _ => ?_))
      exact sk_ret [] sym rfl (.cons (.tmp rfl) .nil) uc sb (.inl rfl) rfl
  obtain ⟨_, rfl, p3, c3, us3, rfl, -⟩ := id h3
  repeat (first | refine run_S ?_ | refine w_box (fun _ => ?_) | refine w_al (fun _ => ?_))
  rename_i b7
  refine sl_call rfl rfl rfl rfl rfl rfl (fun _ => fReduceM_ct (P := P) (rw2.up uc (List.nil_sublist _)) (hw2.up kept_w uc) hp (by omega) (by omega)) ?_
  rintro v4 U4 D hU4 ⟨vm, e, rfl, rfl, h4⟩
  rw [List.nil_append]
  rcases h4 with ⟨-, rfl, rfl⟩ | ⟨hLb, rfl, h4⟩
  · repeat (first | refine run_S ?_ | refine w_box (fun _ => ?_) | refine w_al (fun _ => ?_))
    refine sl_gdec rfl rfl (fun h => absurd rfl h) (fun _ => ?_)
    repeat (first | refine run_S ?_ | refine w_box (fun _ => ?_) | refine w_al (fun _ => ?_))
    refine st_ne rfl (fun _ => ?_) (fun h => absurd h (by decide))
    repeat (first | refine run_S ?_ | refine w_box (fun _ => ?_) | refine w_al (fun _ => ?_))
    refine sl_gdec rfl rfl (fun h => absurd h (by decide)) (fun _ => ?_)
    repeat (first | refine run_S ?_ | refine w_box (fun _ => ?_) | refine w_al (fun _ => ?_))
    refine sk_ret [] sym rfl (.cons (.tmp rfl) .nil) uc sb (.inl rfl) ?_
    exact congrArg Value.bool (dec_true rfl)
  obtain ⟨_, rfl, p4, c4, us4, rfl, -⟩ := id h4
  repeat (first | refine run_S ?_ | refine w_box (fun _ => ?_) | refine w_al (fun _ => ?_))
  rename_i b9
  refine sl_gdec rfl rfl (fun h => absurd rfl h) (fun _ => ?_)
  repeat (first | refine run_S ?_ | refine w_box (fun _ => ?_) | refine w_al (fun _ => ?_))
  refine st_ne rfl (fun h => absurd rfl h) (fun _ => ?_)
  obtain ⟨A, hAe⟩ : ∃ A : Nat → Nat → Rat, A = fun i j => fa (i * ka + j) := ⟨_, rfl⟩
  obtain ⟨B, hBe⟩ : ∃ B : Nat → Nat → Rat, B = fun i j => fb (i * kb + j) := ⟨_, rfl⟩
  have hA : Vm (Wq 1) ma ka U1 (.agg #[.int .i64 (ma : Int), .int .i64 (ka : Int), .slice pa (ma * ka) cca]) A := ⟨_, rfl, Ls.congr (g := fa) ⟨pa, cca, xsa, rfl, hca, rw1.up uc (List.nil_sublist _), hw1.up kept_w uc⟩ fun k _ => by rw [hAe]; show _ = fa (k / ka * ka + k % ka); rw [Nat.mul_comm, Nat.div_add_mod]⟩
  have hB : Vm (Wq 1) mb kb U1 (.agg #[.int .i64 (mb : Int), .int .i64 (kb : Int), .slice pb (mb * kb) ccb]) B := ⟨_, rfl, Ls.congr (g := fb) ⟨pb, ccb, xsb, rfl, hcb, rw2.up uc (List.nil_sublist _), hw2.up kept_w uc⟩ fun k _ => by rw [hBe]; show _ = fb (k / kb * kb + k % kb); rw [Nat.mul_comm, Nat.div_add_mod]⟩
  have hRA : Vmz (Vf P) ma ka U4 (.agg #[.int .i64 (ma : Int), .int .i64 (ka : Int), .slice p3 (ma * ka) c3]) (fun i j => Fq.ofQ P (A i j)) := by
    obtain ⟨q, e, h⟩ := h3
    rw [hAe]
    exact ⟨q, e, h.up KeptC.out uc (List.Sublist.refl _)⟩
  have hRB : Vmz (Vf P) mb kb U4 (.agg #[.int .i64 (mb : Int), .int .i64 (kb : Int), .slice p4 (mb * kb) c4]) (fun i j => Fq.ofQ P (B i j)) := by rw [hBe]; exact h4
  have lA : ∀ i j, i < ma → j < ka → Fq.Loc P (A i j) := fun i j hi hj => by rw [hAe]; exact hLa _ (ij_lt hi hj)
  have lB : ∀ i j, i < mb → j < kb → Fq.Loc P (B i j) := fun i j hi hj => by rw [hBe]; exact hLb _ (ij_lt hi hj)
  have sA : ∀ i j, i < ma → j < ka → Szq (A i j) 1 := fun i j hi hj => hA.sz (Nat.le_refl 1) hi hj
  clear h3 h4 hLa hLb hAe hBe hw1 hw2 rw1 rw2
  have hg5 : La.gro 1 ma ≤ 3000 := Nat.le_trans (La.gro_le hma) (by decide)
  have hg6 : ma * La.gro 1 ma ≤ 5 * 3000 := Nat.mul_le_mul hma hg5
  have hRAz := hRA.vz (by omega)
  have hRBz := hRB.vz (by omega)
  have eA : Ofm P (fun i j => ((Fq.ofQ P (A i j)).v : Int)) = fun i j => Fq.ofQ P (A i j) := ofm_v _
  have eB : Ofm P (fun i j => ((Fq.ofQ P (B i j)).v : Int)) = fun i j => Fq.ofQ P (B i j) := ofm_v _
  repeat (first | refine run_S ?_ | refine w_box (fun _ => ?_) | refine w_al (fun _ => ?_))
  refine sl_call rfl rfl rfl rfl rfl rfl (fun _ => fRank_ct (P := P) (hRAz.mm uc) hp (by omega) (by omega)) ?_
  rintro v5 U5 D hU5 ⟨r5, R5, q5, rfl, hE5, -, rfl⟩
  rw [List.nil_append]
  rw [eA] at hE5
  repeat (first | refine run_S ?_ | refine w_box (fun _ => ?_) | refine w_al (fun _ => ?_))
  refine sl_call rfl rfl rfl rfl rfl rfl (fun _ => mRank_ct (kept_m kept_w _ _ _ _ uc hA) (Nat.le_refl 1) (by omega) (by omega) (by omega) (by omega)) ?_
  rintro v6 U6 D hU6 ⟨r6, R6, q6, rfl, hE6, -, rfl⟩
  rw [List.nil_append]
  have hr56 : r5 ≤ r6 := Fq.rank_res lA hE6.same hE5.ech hE5.same
  have hr5 := hE5.le
  have hr6 := hE6.le
  repeat (first | refine run_S ?_ | refine w_box (fun _ => ?_) | refine w_al (fun _ => ?_))
  refine sl_gdec rfl rfl (fun h => absurd rfl h) (fun _ => ?_)
  repeat (first | refine run_S ?_ | refine w_box (fun _ => ?_) | refine w_al (fun _ => ?_))
  refine sl_gdec rfl rfl (fun h => absurd rfl h) (fun _ => ?_)
  repeat (first | refine run_S ?_ | refine w_box (fun _ => ?_) | refine w_al (fun _ => ?_))
  refine st_dec rfl (fun h => absurd h (by omega)) (fun _ => ?_)
  try refine run_s ?_
  refine st_cutK (fun E U' M' => True ∧ E = [(0, .int .i64 (P.1 : Int)), (4, .pointer (some ⟨b4, 0, none⟩)), (5, .pointer (some ⟨b5, 0, none⟩)), (7, .pointer (some ⟨b7, 0, none⟩))] ∧ ULe U4 U' ∧ M' = (b7, .var (.agg #[.int .i64 (ma : Int), .int .i64 (ka : Int), .slice p3 (ma * ka) c3]), TF) :: (b5, .var (.agg #[.int .i64 (mb : Int), .int .i64 (kb : Int), .slice pb (mb * kb) ccb]), TM) :: (b4, .var (.agg #[.int .i64 (ma : Int), .int .i64 (ka : Int), .slice pa (ma * ka) cca]), TM) :: M) ?_ ?_
  · refine st_eq rfl (fun h => ?_) (fun h => ?_)
    · obtain rfl : ka = mb := by omega
      repeat (first | refine run_S ?_ | refine w_box (fun _ => ?_) | refine w_al (fun _ => ?_))
      refine sl_call rfl rfl rfl rfl rfl rfl (fun _ => fMul_ct (P := P) (hRAz.mm uc) (hRBz.mm uc) hp (by omega) (by omega) (by omega)) ?_
      rintro v8 U8 D hU8 ⟨vR, rfl, h8, rfl⟩
      rw [List.nil_append]
      rw [eA, eB] at h8
      obtain ⟨_, rfl, p8, c8, us8, rfl, -⟩ := id h8
      repeat (first | refine run_S ?_ | refine w_box (fun _ => ?_) | refine w_al (fun _ => ?_))
      refine sl_call rfl rfl rfl rfl rfl rfl (fun _ => m9Mul_ct (b := 1) (kept_m kept_w _ _ _ _ uc hA) (kept_m kept_w _ _ _ _ uc hB) (Nat.le_refl 1) (by omega) (by omega) (by omega) (by omega) (by omega)) ?_
      rintro v9 U9 D hU9 ⟨h9, rfl⟩
      rw [List.nil_append]
      have sAB : ∀ i j, i < ma → j < kb → Szq (La.mm ka A B i j) 21 := fun i j hi hj => (szq_sm fun k hk => (sA i k hi hk).mul (hB.sz (Nat.le_refl 1) hk hj)).mono (by omega)
      have lAB : ∀ i j, i < ma → j < kb → Fq.Loc P (La.mm ka A B i j) ∧ Fq.ofQ P (La.mm ka A B i j) = La.mm ka (fun i j => Fq.ofQ P (A i j)) (fun i j => Fq.ofQ P (B i j)) i j := fun i j hi hj => by
        obtain ⟨m1, m2⟩ := Fq.loc_sm (P := P) (n := ka) (f := fun k => A i k * B k j) fun k hk => (Fq.loc_mul (lA i k hi hk) (lB k j hk hj)).1
        exact ⟨m1, m2.trans (La.sm_congr fun k hk => (Fq.loc_mul (lA i k hi hk) (lB k j hk hj)).2)⟩
      have h9w := h9.w sAB
      obtain ⟨_, rfl, p9, c9, us9, rfl, hc9, rw9, el9⟩ := id h9w
      repeat (first | refine run_S ?_ | refine w_box (fun _ => ?_) | refine w_al (fun _ => ?_))
      refine sl_call rfl rfl rfl rfl rfl rfl (fun _ => z13ReduceM_ct (P := P) (R := ma) (C := kb) (sz := 21) (by decide) (by omega) (rw9.up uc (List.nil_sublist _)) (el9.up kept_w uc) hp) ?_
      rintro v10 U10 D hU10 ⟨vn, b, rfl, rfl, h10⟩
      rw [List.nil_append]
      rcases h10 with ⟨⟨i, hi, hL⟩, -, -⟩ | ⟨-, rfl, h10⟩
      · exact absurd (lAB _ _ (fl_lt hi).1 (fl_lt hi).2).1 hL
      have h11 : Vmz (Vf P) ma kb U10 vn (La.mm ka (fun i j => Fq.ofQ P (A i j)) (fun i j => Fq.ofQ P (B i j))) := h10.congr fun i j hi hj => by
        rw [fl_at hj]
        exact (lAB i j hi hj).2
      obtain ⟨_, rfl, p10, c10, us10, rfl, -⟩ := id h11
      repeat (first | refine run_S ?_ | refine w_box (fun _ => ?_) | refine w_al (fun _ => ?_))
      refine sl_gdec rfl rfl (fun h => absurd rfl h) (fun _ => ?_)
      repeat (first | refine run_S ?_ | refine w_box (fun _ => ?_) | refine w_al (fun _ => ?_))
      refine sl_call rfl rfl rfl rfl rfl rfl (fun _ => bSameFMatrix_ct (ok1 := Vf P) (ok2 := Vf P) (fun x : Fp P => (x.v : Int)) (fun x : Fp P => (x.v : Int)) (fun _ _ _ h => h) (fun _ _ _ h => h) (h8.mm uc) (h11.mm uc) (by omega) (by omega)) ?_
      rintro v12 U12 D12 hU12 ⟨b, rfl, hb, rfl, rfl⟩
      obtain rfl := hb.2 ⟨rfl, rfl, fun _ _ _ _ => rfl⟩
      rw [List.nil_append]
      repeat (first | refine run_S ?_ | refine w_box (fun _ => ?_) | refine w_al (fun _ => ?_))
      refine sk_anti (M' := (b7, .var (.agg #[.int .i64 (ma : Int), .int .i64 (ka : Int), .slice p3 (ma * ka) c3]), TF) :: (b5, .var (.agg #[.int .i64 (ka : Int), .int .i64 (kb : Int), .slice pb (ka * kb) ccb]), TM) :: (b4, .var (.agg #[.int .i64 (ma : Int), .int .i64 (ka : Int), .slice pa (ma * ka) cca]), TM) :: M) (ULe.refl _) sbk ?_
      exact sk_cut (E' := [(0, .int .i64 (P.1 : Int)), (4, .pointer (some ⟨b4, 0, none⟩)), (5, .pointer (some ⟨b5, 0, none⟩)), (7, .pointer (some ⟨b7, 0, none⟩))]) ⟨rfl, rfl, rfl, rfl, trivial⟩ ⟨trivial, rfl, uc, rfl⟩
    · repeat (first | refine run_S ?_ | refine w_box (fun _ => ?_) | refine w_al (fun _ => ?_))
      refine sk_anti (M' := (b7, .var (.agg #[.int .i64 (ma : Int), .int .i64 (ka : Int), .slice p3 (ma * ka) c3]), TF) :: (b5, .var (.agg #[.int .i64 (mb : Int), .int .i64 (kb : Int), .slice pb (mb * kb) ccb]), TM) :: (b4, .var (.agg #[.int .i64 (ma : Int), .int .i64 (ka : Int), .slice pa (ma * ka) cca]), TM) :: M) (ULe.refl _) sbk ?_
      exact sk_cut (E' := [(0, .int .i64 (P.1 : Int)), (4, .pointer (some ⟨b4, 0, none⟩)), (5, .pointer (some ⟨b5, 0, none⟩)), (7, .pointer (some ⟨b7, 0, none⟩))]) ⟨rfl, rfl, rfl, rfl, trivial⟩ ⟨trivial, rfl, uc, rfl⟩
  rintro E U7 M' ⟨-, rfl, hU7, rfl⟩
  repeat (first | refine run_S ?_ | refine w_box (fun _ => ?_) | refine w_al (fun _ => ?_))
  refine st_ne rfl (fun h => ?_) (fun h => ?_)
  · repeat (first | refine run_S ?_ | refine w_box (fun _ => ?_) | refine w_al (fun _ => ?_))
    exact sk_ret [] sym rfl (.cons (.tmp rfl) .nil) uc sb (.inl rfl) rfl
  obtain rfl : ma = ka := by omega
  have hFL := fl_short sA hma
  repeat (first | refine run_S ?_ | refine w_box (fun _ => ?_) | refine w_al (fun _ => ?_))
  refine sl_call rfl rfl rfl rfl rfl rfl (fun _ => fDet_ct (P := P) (hRAz.mm uc) hp (by omega)) ?_
  rintro v15 U15 D15 hU15 ⟨rfl, -, rfl⟩
  rw [List.nil_append, eA]
  repeat (first | refine run_S ?_ | refine w_box (fun _ => ?_) | refine w_al (fun _ => ?_))
  refine sl_call rfl rfl rfl rfl rfl rfl (fun _ => fCharPoly_ct (P := P) (hRAz.mm uc) hp (by omega)) ?_
  rintro v16 U16 D16 hU16 ⟨_, rfl, h16, rfl⟩
  rw [List.nil_append]
  rw [eA] at h16
  obtain ⟨p16, c16, us16, rfl, hc16, rw16, el16⟩ := id h16
  repeat (first | refine run_S ?_ | refine w_box (fun _ => ?_) | refine w_al (fun _ => ?_))
  refine sl_call rfl rfl rfl rfl rfl rfl (fun _ => ct_setg (m9Rows_co (kept_m kept_w _ _ _ _ uc hA) (by decide) (by omega) (by omega) (by omega))) ?_
  rintro v17 U17 D hU17 ⟨h17, rfl⟩
  rw [List.nil_append]
  have hd5 := dsz_five hma
  refine sl_call rfl rfl rfl rfl rfl rfl (fun _ => m9Det_ct (k := 1) ma (h17.up kept_r uc (List.nil_sublist _)) sA (Nat.le_refl 1) (by decide) (by omega) (by omega)) ?_
  rintro v18 U18 D hU18 ⟨⟨x18, rfl, h18⟩, rfl⟩
  rw [List.nil_append]
  have sd := det_sz sA
  obtain ⟨d1, d2⟩ := Fq.det_res lA
  repeat (first | refine run_S ?_ | refine w_box (fun _ => ?_) | refine w_al (fun _ => ?_))
  refine sl_call rfl rfl rfl rfl rfl rfl (fun _ => z13Residue_ct (P := P) (h18.rep.up uc (List.nil_sublist _)) (h18.le sd (by omega)) (by omega)) ?_
  rintro v19 U19 D hU19 ⟨r, b, rfl, hL, -, -, rfl⟩
  rw [List.nil_append]
  obtain ⟨rfl, rfl⟩ := hL d1
  rw [d2]
  repeat (first | refine run_S ?_ | refine w_box (fun _ => ?_) | refine w_al (fun _ => ?_))
  refine sl_call rfl rfl rfl rfl rfl rfl (fun _ => z11CharPoly_ct (s := 264) ((kept_m kept_w _ _ _ _ uc hA).mono (by decide)) hFL (by decide) (by decide) (by omega)) ?_
  rintro v20 U20 D hU20 ⟨h20, rfl⟩
  rw [List.nil_append]
  obtain ⟨p20, c20, us20, rfl, hc20, rw20, el20⟩ := id h20
  repeat (first | refine run_S ?_ | refine w_box (fun _ => ?_) | refine w_al (fun _ => ?_))
  refine sl_gdec rfl rfl (fun h => absurd rfl h) (fun _ => ?_)
  repeat (first | refine run_S ?_ | refine w_box (fun _ => ?_) | refine w_al (fun _ => ?_))
  refine sl_gdec rfl rfl (fun h => absurd rfl h) (fun _ => ?_)
  repeat (first | refine run_S ?_ | refine w_box (fun _ => ?_) | refine w_al (fun _ => ?_))
  refine sl_gdec rfl rfl (fun h => absurd rfl h) (fun _ => ?_)
  repeat (first | refine run_S ?_ | refine w_box (fun _ => ?_) | refine w_al (fun _ => ?_))
  refine st_ne rfl (fun h => absurd rfl h) (fun _ => ?_)
  repeat (first | refine run_S ?_ | refine w_box (fun _ => ?_) | refine w_al (fun _ => ?_))
  try refine st_anti (M' := M) (ULe.refl _) sbk ?_
  refine st_loop (fun z E U' M' => ∃ (i : Nat), i ≤ ma + 1 ∧ E = [(26, .int .i64 (i : Int)), (25, .slice p20 (ma + 1) c20), (21, .slice p16 (ma + 1) c16), (0, .int .i64 (P.1 : Int))] ∧ ULe U20 U' ∧ M' = M ∧ z = ma + 1 - i) (n0 := ma + 1 - 0) (E0 := [(26, .int .i64 ((0 : Nat) : Int)), (25, .slice p20 (ma + 1) c20), (21, .slice p16 (ma + 1) c16), (0, .int .i64 (P.1 : Int))]) ⟨rfl, rfl, rfl, rfl, trivial⟩ ⟨0, by omega, rfl, uc, rfl, rfl⟩ ?_
  rintro z E U21 M' ⟨i, hi, rfl, hU21, rfl, rfl⟩
  try refine run_s ?_
  refine st_dec rfl (fun h => ?_) (fun h => ?_)
  · have hin : i < ma + 1 := by omega
    obtain ⟨v1, hv1⟩ := rw20.at hin
    obtain ⟨x1, rfl, hx1⟩ := el20 _ _ hv1
    obtain ⟨v2, hv2⟩ := rw16.at hin
    obtain rfl := el16 _ _ hv2
    obtain ⟨m1, m2⟩ := Fq.cp_res lA (ma - i)
    repeat (first | refine run_S ?_ | refine w_box (fun _ => ?_) | refine w_al (fun _ => ?_))
    refine sl_y (yl_index sym rfl rfl rfl rfl rfl rfl ((rw20.up uc sb).lt hv1) ((rw20.up uc sb).get _ _ hv1).1) rfl rfl rfl rfl ?_; refine sl_y (yl_loadRs sym rfl rfl rfl rfl rfl (rw20.up uc sb) hv1) rfl rfl rfl rfl ?_
    repeat (first | refine run_S ?_ | refine w_box (fun _ => ?_) | refine w_al (fun _ => ?_))
    refine sl_call rfl rfl rfl rfl rfl rfl (fun _ => z13Residue_ct (P := P) (hx1.rep.up uc (List.nil_sublist _)) (hx1.le (hFL.cp (ma - i) (by omega)) (by decide)) (by omega)) ?_
    rintro v3 U3 D hU3 ⟨r, b, rfl, hL, -, -, rfl⟩
    rw [List.nil_append]
    obtain ⟨rfl, rfl⟩ := hL m1
    rw [m2]
    repeat (first | refine run_S ?_ | refine w_box (fun _ => ?_) | refine w_al (fun _ => ?_))
    refine sl_y (yl_index sym rfl rfl rfl rfl rfl rfl ((rw16.up uc sb).lt hv2) ((rw16.up uc sb).get _ _ hv2).1) rfl rfl rfl rfl ?_; refine sl_y (yl_loadR1 sym rfl rfl rfl rfl (rw16.up uc sb) hv2 rfl) rfl rfl rfl rfl ?_
    repeat (first | refine run_S ?_ | refine w_box (fun _ => ?_) | refine w_al (fun _ => ?_))
    refine st_ne rfl (fun h => absurd rfl h) (fun _ => ?_)
    repeat (first | refine run_S ?_ | refine w_box (fun _ => ?_) | refine w_al (fun _ => ?_))
    exact sk_again (E' := [(26, .int .i64 ((i : Int) + 1)), (25, .slice p20 (ma + 1) c20), (21, .slice p16 (ma + 1) c16), (0, .int .i64 (P.1 : Int))]) (m := ma + 1 - (i + 1)) ⟨rfl, rfl, rfl, rfl, trivial⟩ (by omega) ⟨i + 1, by omega, rfl, uc, rfl, rfl⟩
  · repeat (first | refine run_S ?_ | refine w_box (fun _ => ?_) | refine w_al (fun _ => ?_))
    exact sk_ret [] sym rfl (.cons (.tmp rfl) .nil) uc sb (.inl rfl) rfl
end Go.Proofs.YtpigpikhjlmdoaaGreat
