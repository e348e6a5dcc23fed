/- The law of layer 9 on solutions. -/
import Derived.Test.YtcfgogamamdipaaGreatB114
import Derived.Test.YtcfgogamamdipaaGreatB108
namespace Go.Proofs.YtcfgogamamdipaaGreat
open Go.Hp
variable {G : World} {U U' : UH} {M M' : MH}

/-- A list of raw fractions among the arguments. -/
def Rats (U : UH) (v : Value) (n : Nat) (f : Nat → Rat) : Prop := n ≤ 9223372036854775807 ∧ Ls Xq 4 n U [] v f

theorem dbl_mid {W k n : Nat} (hn : n ≤ 6) (hW : W ≤ 54000000) (hk : k ≤ 1000000) : La.dbl W k n ≤ 4000000000 := by
  have h1 := La.dbl_bd W k n
  have h2 : 2 ^ n ≤ 2 ^ 6 := Nat.pow_le_pow_right (by decide) hn
  have h3 : 2 ^ n * (k + W + 1) ≤ 2 ^ 6 * (1000000 + 54000000 + 1) := Nat.mul_le_mul h2 (by omega)
  have : (2 : Nat) ^ 6 * (1000000 + 54000000 + 1) = 3520000064 := by decide
  omega

set_option maxRecDepth 100000 in
theorem MatrixSolves_ct {va : Value} {ra ca : Int} {na : Nat} {fa : Nat → Rat} {vb vx : Value} {nb nx : Nat} {fb fx : Nat → Rat} (ha : Raw U va ra ca na fa) (hb : Rats U vb nb fb) (hx : Rats U vx nx fx) :
    Ct Tryz.prog 8 [va, vb, vx] G U M fun v _ _ => v = .bool true := by
  have ha0 := ha
  obtain ⟨ha1, ha2, ha3, _, rfl, pa, cca, asa, rfl, -⟩ := ha
  obtain ⟨hnb, pb, cb, bs, rfl, hcb, rb, eb⟩ := hb
  obtain ⟨hnx, px, cx, xs, rfl, hcx, rx, ex⟩ := hx
  refine ct_of_st Tryz.func8 rfl rfl rfl rfl ?_
  repeat (first | refine run_S ?_ | refine w_box (fun _ => ?_) | refine w_al (fun _ => ?_))
  rename_i b2
  refine sl_call rfl rfl rfl rfl rfl rfl (fun _ => awake9_ct) ?_
  rintro v1 U1 D hU1 ⟨rfl, -, rfl⟩
  rw [List.nil_append]
  repeat (first | refine run_S ?_ | refine w_box (fun _ => ?_) | refine w_al (fun _ => ?_))
  refine sl_bslice (vs := [.agg #[.int .i64 ra, .int .i64 ca, .slice pa na cca]]) sym rfl rfl rfl rfl rfl rfl (all_size rfl) rfl rfl rfl rfl rfl rfl (fun bl => ?_)
  have hrl := (RowO.mk (e := TM) (s := 3) (b := bl) (n := 1) (vs := [.agg #[.int .i64 ra, .int .i64 ca, .slice pa na cca]]) rfl (all_size rfl) (by omega)).at (U := U1) (M := (bl, .arr [.agg #[.int .i64 ra, .int .i64 ca, .slice pa na cca]], TM) :: (b2, .var (.agg #[.int .i64 ra, .int .i64 ca, .slice pa na cca]), TM) :: M) sb
  refine sl_call rfl rfl rfl rfl rfl rfl (fun _ => light_ct (most := 6) (r := fun _ => ra) (c := fun _ => ca) (n := fun _ => na) (f := fun _ => fa) (hrl.up uc sb) (one_row (P := fun _ v => Raw U1 v ra ca na fa) (ha0.up uc)) (by decide) (by decide)) ?_
  rintro v2 U2 D hU2 ⟨b, rfl, hl, rfl, rfl⟩
  rw [List.nil_append]
  cases b
  · repeat (first | refine run_S ?_ | refine w_box (fun _ => ?_) | refine w_al (fun _ => ?_))
    exact sk_ret [] sym rfl (.cons (.tmp rfl) .nil) uc sb (.inl rfl) rfl
  have la : Lit 6 U1 _ ra ca na fa := hl rfl 0 _ rfl
  clear hl hrl
  repeat (first | refine run_S ?_ | refine w_box (fun _ => ?_) | refine w_al (fun _ => ?_))
  refine sl_call rfl rfl rfl rfl rfl rfl (fun _ => m9Valid_ct (r := ra) (c := ca) (p := pa) (cc := cca) ha3) ?_
  rintro v U' D hU ⟨rfl, rfl, rfl⟩
  repeat (first | refine run_S ?_ | refine w_box (fun _ => ?_) | refine w_al (fun _ => ?_))
  by_cases hVa : Vld ra ca na
  · rw [decide_eq_true hVa]
    obtain ⟨m, n, rfl, rfl, hm6, hn6, hA⟩ := la.vm hVa
    generalize (fun i j => fa (i * n + j)) = A at hA
    clear la
    repeat (first | refine run_S ?_ | refine w_box (fun _ => ?_) | refine w_al (fun _ => ?_))
    refine sl_gdec rfl rfl (fun h => ?_) (fun hb1 => ?_)
    · repeat (first | refine run_S ?_ | refine w_box (fun _ => ?_) | refine w_al (fun _ => ?_))
      exact sk_ret [] sym rfl (.cons (.tmp rfl) .nil) uc sb (.inl rfl) rfl
    obtain rfl : nb = n := by omega
    repeat (first | refine run_S ?_ | refine w_box (fun _ => ?_) | refine w_al (fun _ => ?_))
    refine sl_gdec rfl rfl (fun h => ?_) (fun hx1 => ?_)
    · repeat (first | refine run_S ?_ | refine w_box (fun _ => ?_) | refine w_al (fun _ => ?_))
      exact sk_ret [] sym rfl (.cons (.tmp rfl) .nil) uc sb (.inl rfl) rfl
    obtain rfl : nx = m := by omega
    repeat (first | refine run_S ?_ | refine w_box (fun _ => ?_) | refine w_al (fun _ => ?_))
    refine sl_call rfl rfl rfl rfl rfl rfl (fun _ => short9_ct (rb.ls uc) (eb.up kept_x uc) (by omega)) ?_
    rintro v3 U3 D3 hU3 ⟨b3, rfl, hb3, rfl, rfl⟩
    rw [List.nil_append]
    cases b3
    · repeat (first | refine run_S ?_ | refine w_box (fun _ => ?_) | refine w_al (fun _ => ?_))
      exact sk_ret [] sym rfl (.cons (.tmp rfl) .nil) uc sb (.inl rfl) rfl
    replace hb3 := hb3 rfl
    repeat (first | refine run_S ?_ | refine w_box (fun _ => ?_) | refine w_al (fun _ => ?_))
    refine sl_call rfl rfl rfl rfl rfl rfl (fun _ => short9_ct (rx.ls uc) (ex.up kept_x uc) (by omega)) ?_
    rintro v4 U4 D4 hU4 ⟨b4, rfl, hb4, rfl, rfl⟩
    rw [List.nil_append]
    cases b4
    · repeat (first | refine run_S ?_ | refine w_box (fun _ => ?_) | refine w_al (fun _ => ?_))
      exact sk_ret [] sym rfl (.cons (.tmp rfl) .nil) uc sb (.inl rfl) rfl
    replace hb4 := hb4 rfl
    have hB : Ls (Wq 1) 4 nb U1 [] (.slice pb nb cb) fb := ⟨pb, cb, bs, rfl, hcb, rb.up uc (List.Sublist.refl _), hb3⟩
    have hX : Ls (Wq 1) 4 nx U1 [] (.slice px nx cx) fx := ⟨px, cx, xs, rfl, hcx, rx.up uc (List.Sublist.refl _), hb4⟩
    have g1 := gro_small (k := 1) (n := nx) (by omega) (by decide)
    obtain ⟨g2, g3⟩ := gro_one hm6
    have g4 := gro_mid (k := La.gro 1 nx) hm6 g3
    have g5 := dbl_small (W := La.gro 1 nx) (k := 1) hm6 g3 (by decide)
    have g6 := dbl_mid (W := La.gro (La.gro 1 nx) nx) (k := La.dbl (La.gro 1 nx) 1 nx) hm6 (by omega) g5
    have g7 := dbl_small (W := La.gro 1 nx) (k := 19) hm6 g3 (by decide)
    have g8 := dbl_mid (W := La.gro (La.gro 1 nx) nx) (k := La.dbl (La.gro 1 nx) 19 nx) hm6 (by omega) g7
    have sA : ∀ i j, i < nx → j < nb → Szq (A i j) 1 := fun i j hi hj => hA.sz (Nat.le_refl 1) hi hj
    have sX : ∀ i, i < nx → Szq (fx i) 1 := fun i hi => hX.sz (Nat.le_refl 1) hi
    have hmn : nx * nb ≤ 36 := Nat.le_trans (Nat.mul_le_mul hm6 hn6) (by decide)
    clear hb3 hb4
    repeat (first | refine run_S ?_ | refine w_box (fun _ => ?_) | refine w_al (fun _ => ?_))
    refine sl_call rfl rfl rfl rfl rfl rfl (fun _ => mSolve_ct (kept_m kept_w _ _ _ _ uc hA) (Ls.up (M' := []) hB kept_w uc (List.Sublist.refl _)) (Nat.le_refl 1) (Nat.le_refl 1) (by decide) (by omega) (by omega) (by omega) (by omega) (by omega) (by omega) (by omega)) ?_
    rintro v5 U5 D5 hU5 ⟨hno5, hyes5, rfl⟩
    rw [List.nil_append]
    by_cases hy : ∃ y, La.Sol nx nb A fb y
    · obtain ⟨Y, vy, rfl, h5, hY⟩ := hyes5 hy
      clear hno5 hyes5
      obtain ⟨p5, c5, w5, rfl, -⟩ := id h5
      repeat (first | refine run_S ?_ | refine w_box (fun _ => ?_) | refine w_al (fun _ => ?_))
      refine sl_call rfl rfl rfl rfl rfl rfl (fun _ => m9Solve_ct (kept_m kept_w _ _ _ _ uc hA) (Ls.up (M' := []) hB kept_w uc (List.Sublist.refl _)) (Nat.le_refl 1) (Nat.le_refl 1) (by omega) (by omega) (by omega) (by omega)) ?_
      rintro v6 U6 D6 hU6 ⟨-, hyes6, rfl⟩
      rw [List.nil_append]
      obtain ⟨Y2, vy2, rfl, h6, hY2, -⟩ := hyes6 hy
      obtain ⟨p6, c6, w6, rfl, -⟩ := id h6
      repeat (first | refine run_S ?_ | refine w_box (fun _ => ?_) | refine w_al (fun _ => ?_))
      refine sl_gdec rfl rfl (fun h => absurd rfl h) (fun _ => ?_)
      repeat (first | refine run_S ?_ | refine w_box (fun _ => ?_) | refine w_al (fun _ => ?_))
      refine sl_call rfl rfl rfl rfl rfl rfl (fun _ => bSameRats_ct (m := nx) (n := nx) (Ls.up (M' := _) h5 kept_q uc sb) (Ls.up (M' := _) h6 kept_q uc sb) (by omega) (by omega)) ?_
      rintro v7 U7 D hU7 ⟨b7, rfl, hb7, rfl, rfl⟩
      rw [List.nil_append]
      obtain rfl := hb7.2 ⟨rfl, hY.unique hY2⟩
      repeat (first | refine run_S ?_ | refine w_box (fun _ => ?_) | refine w_al (fun _ => ?_))
      refine sl_call rfl rfl rfl rfl rfl rfl (fun _ => (m9Apply_ct (b := 1) (Ls.up (M' := _) hX kept_w uc sb) (kept_m kept_w _ _ _ _ uc hA) (Nat.le_refl 1) (by omega) (by omega) (by omega) (by omega) (by omega)).setl kept_q) ?_
      rintro v9 U9 D hU9 ⟨h9, rfl⟩
      rw [List.nil_append]
      have s9 : ∀ j, j < nb → Szq (La.sm nx fun i => fx i * A i j) 19 := fun j hj => (szq_sm (k := 2) fun i hi => (sX i hi).mul (sA i j hi hj)).mono (by omega)
      obtain ⟨p9, c9, w9, rfl, -⟩ := id h9
      repeat (first | refine run_S ?_ | refine w_box (fun _ => ?_) | refine w_al (fun _ => ?_))
      refine sl_call rfl rfl rfl rfl rfl rfl (fun _ => mSolve_ct (kept_m kept_w _ _ _ _ uc hA) ((Ls.up (M' := []) h9 kept_q uc (List.Sublist.refl _)).toW s9) (Nat.le_refl 1) (by decide) (by decide) (by omega) (by omega) (by omega) (by omega) (by omega) (by omega) (by omega)) ?_
      rintro v10 U10 D10 hU10 ⟨-, hyes10, rfl⟩
      rw [List.nil_append]
      obtain ⟨Z, vz, rfl, hz, hZ⟩ := hyes10 ⟨fx, fun j hj => rfl⟩
      have sZ := SolOf.small hZ (Nat.le_refl 1) sA (by decide) s9
      obtain ⟨pz, cz, zs, rfl, -⟩ := id hz
      repeat (first | refine run_S ?_ | refine w_box (fun _ => ?_) | refine w_al (fun _ => ?_))
      refine sl_gdec rfl rfl (fun _ => ?_) (fun h => absurd rfl h)
      repeat (first | refine run_S ?_ | refine w_box (fun _ => ?_) | refine w_al (fun _ => ?_))
      refine sl_gdec rfl rfl (fun _ => ?_) (fun h => absurd rfl h)
      repeat (first | refine run_S ?_ | refine w_box (fun _ => ?_) | refine w_al (fun _ => ?_))
      refine sl_call rfl rfl rfl rfl rfl rfl (fun _ => (m9Apply_ct (b := 1000000) (Ls.toW (Ls.up (M' := _) hz kept_q uc sb) fun i hi => (sZ i hi).mono g7) ((kept_m kept_w _ _ _ _ uc hA).mono (by decide)) (by decide) (by omega) (by omega) (by omega) (by omega) (by omega)).setl kept_q) ?_
      rintro v12 U12 D hU12 ⟨h12, rfl⟩
      rw [List.nil_append]
      obtain ⟨p12, c12, w12, rfl, -⟩ := id h12
      repeat (first | refine run_S ?_ | refine w_box (fun _ => ?_) | refine w_al (fun _ => ?_))
      refine sl_call rfl rfl rfl rfl rfl rfl (fun _ => bSameRats_ct (m := nb) (n := nb) (Ls.up (M' := _) h12 kept_q uc sb) (Ls.up (M' := _) h9 kept_q uc sb) (by omega) (by omega)) ?_
      rintro v13 U13 D hU13 ⟨b13, rfl, hb13, rfl, rfl⟩
      rw [List.nil_append]
      obtain rfl := hb13.2 ⟨rfl, fun j hj => (hZ.1 j hj).symm⟩
      repeat (first | refine run_S ?_ | refine w_box (fun _ => ?_) | refine w_al (fun _ => ?_))
      exact sk_ret [] sym rfl (.cons (.tmp rfl) .nil) uc sb (.inl rfl) rfl
    · obtain rfl := hno5 fun y hs => hy ⟨y, hs⟩
      clear hno5 hyes5
      repeat (first | refine run_S ?_ | refine w_box (fun _ => ?_) | refine w_al (fun _ => ?_))
      refine sl_call rfl rfl rfl rfl rfl rfl (fun _ => m9Solve_ct (kept_m kept_w _ _ _ _ uc hA) (Ls.up (M' := []) hB kept_w uc (List.Sublist.refl _)) (Nat.le_refl 1) (Nat.le_refl 1) (by omega) (by omega) (by omega) (by omega)) ?_
      rintro v6 U6 D6 hU6 ⟨hno6, -, rfl⟩
      rw [List.nil_append]
      obtain rfl := hno6 fun y hs => hy ⟨y, hs⟩
      repeat (first | refine run_S ?_ | refine w_box (fun _ => ?_) | refine w_al (fun _ => ?_))
      refine sl_gdec rfl rfl (fun h => absurd rfl h) (fun _ => ?_)
      repeat (first | refine run_S ?_ | refine w_box (fun _ => ?_) | refine w_al (fun _ => ?_))
      refine st_dec rfl (fun h => absurd h (by decide)) (fun _ => ?_)
      repeat (first | refine run_S ?_ | refine w_box (fun _ => ?_) | refine w_al (fun _ => ?_))
      refine sl_call rfl rfl rfl rfl rfl rfl (fun _ => (m9Apply_ct (b := 1) (Ls.up (M' := _) hX kept_w uc sb) (kept_m kept_w _ _ _ _ uc hA) (Nat.le_refl 1) (by omega) (by omega) (by omega) (by omega) (by omega)).setl kept_q) ?_
      rintro v9 U9 D hU9 ⟨h9, rfl⟩
      rw [List.nil_append]
      have s9 : ∀ j, j < nb → Szq (La.sm nx fun i => fx i * A i j) 19 := fun j hj => (szq_sm (k := 2) fun i hi => (sX i hi).mul (sA i j hi hj)).mono (by omega)
      obtain ⟨p9, c9, w9, rfl, -⟩ := id h9
      repeat (first | refine run_S ?_ | refine w_box (fun _ => ?_) | refine w_al (fun _ => ?_))
      refine sl_call rfl rfl rfl rfl rfl rfl (fun _ => mSolve_ct (kept_m kept_w _ _ _ _ uc hA) ((Ls.up (M' := []) h9 kept_q uc (List.Sublist.refl _)).toW s9) (Nat.le_refl 1) (by decide) (by decide) (by omega) (by omega) (by omega) (by omega) (by omega) (by omega) (by omega)) ?_
      rintro v10 U10 D10 hU10 ⟨-, hyes10, rfl⟩
      rw [List.nil_append]
      obtain ⟨Z, vz, rfl, hz, hZ⟩ := hyes10 ⟨fx, fun j hj => rfl⟩
      have sZ := SolOf.small hZ (Nat.le_refl 1) sA (by decide) s9
      obtain ⟨pz, cz, zs, rfl, -⟩ := id hz
      repeat (first | refine run_S ?_ | refine w_box (fun _ => ?_) | refine w_al (fun _ => ?_))
      refine sl_gdec rfl rfl (fun _ => ?_) (fun h => absurd rfl h)
      repeat (first | refine run_S ?_ | refine w_box (fun _ => ?_) | refine w_al (fun _ => ?_))
      refine sl_gdec rfl rfl (fun _ => ?_) (fun h => absurd rfl h)
      repeat (first | refine run_S ?_ | refine w_box (fun _ => ?_) | refine w_al (fun _ => ?_))
      refine sl_call rfl rfl rfl rfl rfl rfl (fun _ => (m9Apply_ct (b := 1000000) (Ls.toW (Ls.up (M' := _) hz kept_q uc sb) fun i hi => (sZ i hi).mono g7) ((kept_m kept_w _ _ _ _ uc hA).mono (by decide)) (by decide) (by omega) (by omega) (by omega) (by omega) (by omega)).setl kept_q) ?_
      rintro v12 U12 D hU12 ⟨h12, rfl⟩
      rw [List.nil_append]
      obtain ⟨p12, c12, w12, rfl, -⟩ := id h12
      repeat (first | refine run_S ?_ | refine w_box (fun _ => ?_) | refine w_al (fun _ => ?_))
      refine sl_call rfl rfl rfl rfl rfl rfl (fun _ => bSameRats_ct (m := nb) (n := nb) (Ls.up (M' := _) h12 kept_q uc sb) (Ls.up (M' := _) h9 kept_q uc sb) (by omega) (by omega)) ?_
      rintro v13 U13 D hU13 ⟨b13, rfl, hb13, rfl, rfl⟩
      rw [List.nil_append]
      obtain rfl := hb13.2 ⟨rfl, fun j hj => (hZ.1 j hj).symm⟩
      repeat (first | refine run_S ?_ | refine w_box (fun _ => ?_) | refine w_al (fun _ => ?_))
      exact sk_ret [] sym rfl (.cons (.tmp rfl) .nil) uc sb (.inl rfl) rfl
  · rw [decide_eq_false hVa]
    repeat (first | refine run_S ?_ | refine w_box (fun _ => ?_) | refine w_al (fun _ => ?_))
    exact sk_ret [] sym rfl (.cons (.tmp rfl) .nil) uc sb (.inl rfl) rfl

end Go.Proofs.YtcfgogamamdipaaGreat
