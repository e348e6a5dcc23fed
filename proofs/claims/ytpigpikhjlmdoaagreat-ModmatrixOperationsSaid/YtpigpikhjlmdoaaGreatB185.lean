/- The law of layer 13 on products, echelon forms, kernels, determinants and characteristic polynomials. -/
import Derived.Test.YtpigpikhjlmdoaaGreatB165
import Derived.Test.YtpigpikhjlmdoaaGreatM45
import Derived.Test.YtpigpikhjlmdoaaGreatM46
import Derived.Test.YtpigpikhjlmdoaaGreatM47
import Derived.Test.YtpigpikhjlmdoaaGreatM48
namespace Go.Proofs.YtpigpikhjlmdoaaGreat
open Go.Hp
open Go.Fq (Pm Fp Prm)
variable {G : World} {U U' : UH} {M M' : MH}

theorem RawO.vmz {v : Value} {r c : Int} {n : Nat} {f : Nat → Int} (h : RawO Vz 1 U v r c n f) (hV : Vld r c n) : ∃ R C : Nat, r = (R : Int) ∧ c = (C : Int) ∧ n = R * C ∧ Vmz Vz R C U v (fun i j => f (i * C + j)) := by
  obtain ⟨-, -, -, a, rfl, ha⟩ := h
  obtain ⟨k1, k2, k3, k4, k5⟩ := hV
  obtain ⟨R, rfl⟩ : ∃ R : Nat, r = (R : Int) := ⟨r.toNat, by omega⟩
  obtain ⟨C, rfl⟩ : ∃ C : Nat, c = (C : Int) := ⟨c.toNat, by omega⟩
  obtain rfl : n = R * C := by rw [← Int.natCast_mul] at k5; omega
  exact ⟨R, C, rfl, rfl, rfl, a, rfl, ha.congr fun k _ => by show _ = f (k / C * C + k % C); rw [Nat.mul_comm, Nat.div_add_mod]⟩
theorem EchP.det {P : Pm} {n r : Nat} {A R : Nat → Nat → Fp P} {p : Nat → Nat} (h : EchP n n r A R p) : La.det n A ≠ 0 ↔ r = n := by
  obtain ⟨r', R', p', d, hr⟩ := La.red_ex n A
  obtain ⟨rfl, -, -⟩ := h.ech.unique hr.echp.ech (h.same.trans hr.echp.same.symm)
  obtain ⟨h1, h2⟩ := hr.detp
  constructor
  · intro h3
    rcases Nat.lt_or_ge r n with h4 | h4
    · exact absurd (h2 h4) h3
    · have := h.le; omega
  · intro h3
    rw [h1 h3]
    exact (hr.rop rfl).1

set_option maxRecDepth 100000 in
theorem ModmatrixOperations_ct {z : Int} {va vb : Value} {ra ca rb cb : Int} {na nb : Nat} {fa fb : Nat → Int} (_ : -9223372036854775808 ≤ z) (_ : z ≤ 9223372036854775807) (ha : RawO Vz 1 U va ra ca na fa) (hb : RawO Vz 1 U vb rb cb nb fb) :
    Ct Tryz.prog 4 [.int .i64 z, va, vb] G U M fun v _ _ => v = .bool true := by
  have ha0 := ha
  have hb0 := hb
  obtain ⟨ha1, ha2, ha3, _, rfl, pa, cca, xsa, rfl, -⟩ := ha
  obtain ⟨hb1, hb2, hb3, _, rfl, pb, ccb, xsb, rfl, -⟩ := hb
  refine ct_of_st Tryz.func4 rfl rfl rfl rfl ?_
  repeat (first | refine run_S ?_ | refine w_box (fun _ => ?_) | refine w_al (fun _ => ?_))
  rename_i b4 b5
  refine sl_call rfl rfl rfl rfl rfl rfl (fun _ => awake13_ct) ?_
  rintro v1 U1 D hU1 ⟨rfl, -, rfl⟩
  rw [List.nil_append]
  repeat (first | refine run_S ?_ | refine w_box (fun _ => ?_) | refine w_al (fun _ => ?_))
  refine sl_call rfl rfl rfl rfl rfl rfl (fun _ => z4Modulus_ct (z := z)) ?_
  rintro v U' D hU ⟨rfl, rfl, rfl⟩
  repeat (first | refine run_S ?_ | refine w_box (fun _ => ?_) | refine w_al (fun _ => ?_))
  cases hP : modP z
  · repeat (first | refine run_S ?_ | refine w_box (fun _ => ?_) | refine w_al (fun _ => ?_))
    exact sk_ret [] sym rfl (.cons (.tmp rfl) .nil) uc sb (.inl rfl) rfl
  obtain ⟨P, rfl, hp⟩ := modP_get hP
  repeat (first | refine run_S ?_ | refine w_box (fun _ => ?_) | refine w_al (fun _ => ?_))
  refine sl_bslice (vs := [.agg #[.int .i64 ra, .int .i64 ca, .slice pa na cca], .agg #[.int .i64 rb, .int .i64 cb, .slice pb nb ccb]]) sym rfl rfl rfl rfl rfl rfl (all_size rfl) rfl rfl rfl rfl rfl rfl (fun b30 => ?_)
  have hrl := (RowO.mk (e := TF) (s := 3) (b := b30) (n := 2) (vs := [.agg #[.int .i64 ra, .int .i64 ca, .slice pa na cca], .agg #[.int .i64 rb, .int .i64 cb, .slice pb nb ccb]]) rfl (all_size rfl) (by omega)).at (U := U1) (M := (b30, .arr [.agg #[.int .i64 ra, .int .i64 ca, .slice pa na cca], .agg #[.int .i64 rb, .int .i64 cb, .slice pb nb ccb]], TF) :: (b5, .var (.agg #[.int .i64 rb, .int .i64 cb, .slice pb nb ccb]), TF) :: (b4, .var (.agg #[.int .i64 ra, .int .i64 ca, .slice pa na cca]), TF) :: M) sb
  refine sl_call rfl rfl rfl rfl rfl rfl (fun _ => light13_ct (most := 5) (r := fun k => if k = 0 then ra else rb) (c := fun k => if k = 0 then ca else cb) (n := fun k => if k = 0 then na else nb) (f := fun k => if k = 0 then fa else fb) (hrl.up uc sb) (two_rows (P := fun k v => RawO Vz 1 U1 v (if k = 0 then ra else rb) (if k = 0 then ca else cb) (if k = 0 then na else nb) (if k = 0 then fa else fb)) (ha0.up uc) (hb0.up uc)) (by decide)) ?_
  rintro v2 U2 D hU2 ⟨b, rfl, hl, rfl, rfl⟩
  rw [List.nil_append]
  cases b
  · repeat (first | refine run_S ?_ | refine w_box (fun _ => ?_) | refine w_al (fun _ => ?_))
    exact sk_ret [] sym rfl (.cons (.tmp rfl) .nil) uc sb (.inl rfl) rfl
  have hl2 := hl.1 rfl
  obtain ⟨g1, g2, g3⟩ := hl2 0 (by decide)
  obtain ⟨g4, g5, g6⟩ := hl2 1 (by decide)
  simp only [if_true, show ((1 : Nat) = 0) = False from by simp, if_false] at g1 g2 g3 g4 g5 g6
  obtain ⟨ma, ka, rfl, rfl, rfl, hA⟩ := ha0.vmz g1
  obtain ⟨mb, kb, rfl, rfl, rfl, hB⟩ := hb0.vmz g4
  have hma : ma ≤ 5 := by omega
  have hka : ka ≤ 5 := by omega
  have hmb : mb ≤ 5 := by omega
  have hkb : kb ≤ 5 := by omega
  have hmk : ma * ka ≤ 5 * 5 := Nat.mul_le_mul hma hka
  have hmk2 : mb * kb ≤ 5 * 5 := Nat.mul_le_mul hmb hkb
  have hmk3 : ma * kb ≤ 5 * 5 := Nat.mul_le_mul hma hkb
  obtain ⟨A, hAe⟩ : ∃ A : Nat → Nat → Int, A = fun i j => fa (i * ka + j) := ⟨_, rfl⟩
  obtain ⟨B, hBe⟩ : ∃ B : Nat → Nat → Int, B = fun i j => fb (i * kb + j) := ⟨_, rfl⟩
  rw [← hAe] at hA
  rw [← hBe] at hB
  clear hl hl2 hAe hBe hrl ha0 hb0
  try refine run_s ?_
  refine st_cutK (fun E U' M' => True ∧ E = [(0, .int .i64 (P.1 : Int)), (4, .pointer (some ⟨b4, 0, none⟩)), (5, .pointer (some ⟨b5, 0, none⟩))] ∧ ULe U1 U' ∧ M' = (b5, .var (.agg #[.int .i64 (mb : Int), .int .i64 (kb : Int), .slice pb (mb * kb) ccb]), TF) :: (b4, .var (.agg #[.int .i64 (ma : Int), .int .i64 (ka : Int), .slice pa (ma * ka) cca]), TF) :: M) ?_ ?_
  · refine st_eq rfl (fun h => ?_) (fun h => ?_)
    · obtain rfl : ka = mb := by omega
      repeat (first | refine run_S ?_ | refine w_box (fun _ => ?_) | refine w_al (fun _ => ?_))
      refine sl_call rfl rfl rfl rfl rfl rfl (fun _ => fMul_ct (P := P) (hA.mm uc) (hB.mm uc) hp (by omega) (by omega) (by omega)) ?_
      rintro v3 U3 D hU3 ⟨vR, rfl, h3, rfl⟩
      rw [List.nil_append]
      obtain ⟨_, rfl, p3, c3, us3, rfl, -⟩ := id h3
      repeat (first | refine run_S ?_ | refine w_box (fun _ => ?_) | refine w_al (fun _ => ?_))
      refine st_drawM [8, 9, 10] [0, 1, 2, 3, 4, 5, 6, 7, 8, 9, 10] sym (by kernel_rfl) ?_
      repeat (first | refine run_S ?_ | refine w_box (fun _ => ?_) | refine w_al (fun _ => ?_))
      refine sl_gdec rfl rfl (fun h => absurd rfl h) (fun _ => ?_)
      repeat (first | refine run_S ?_ | refine w_box (fun _ => ?_) | refine w_al (fun _ => ?_))
      refine sl_call rfl rfl rfl rfl rfl rfl (fun _ => z13Mul_ct (P := P) (hA.mm uc) (hB.mm uc) (by omega) (by omega) (by omega) (by omega)) ?_
      rintro v4 U4 D hU4 ⟨h4, rfl⟩
      rw [List.nil_append]
      obtain ⟨_, rfl, p4, c4, us4, rfl, -⟩ := id h4
      refine sl_call rfl rfl rfl rfl rfl rfl (fun _ => bSameFMatrix_ct (ok1 := Vf P) (ok2 := Vf P) (fun x : Fp P => (x.v : Int)) (fun x : Fp P => (x.v : Int)) (fun _ _ _ h => h) (fun _ _ _ h => h) (h3.mm uc) (h4.mm uc) (by omega) (by omega)) ?_
      rintro v8 U8 D8 hU8 ⟨b, rfl, hb, rfl, rfl⟩
      obtain rfl := hb.2 ⟨rfl, rfl, fun _ _ _ _ => rfl⟩
      rw [List.nil_append]
      repeat (first | refine run_S ?_ | refine w_box (fun _ => ?_) | refine w_al (fun _ => ?_))
      refine sk_anti (M' := (b5, .var (.agg #[.int .i64 (ka : Int), .int .i64 (kb : Int), .slice pb (ka * kb) ccb]), TF) :: (b4, .var (.agg #[.int .i64 (ma : Int), .int .i64 (ka : Int), .slice pa (ma * ka) cca]), TF) :: M) (ULe.refl _) sbk ?_
      exact sk_cut (E' := [(0, .int .i64 (P.1 : Int)), (4, .pointer (some ⟨b4, 0, none⟩)), (5, .pointer (some ⟨b5, 0, none⟩))]) ⟨rfl, rfl, rfl, trivial⟩ ⟨trivial, rfl, uc, rfl⟩
    · repeat (first | refine run_S ?_ | refine w_box (fun _ => ?_) | refine w_al (fun _ => ?_))
      refine sk_anti (M' := (b5, .var (.agg #[.int .i64 (mb : Int), .int .i64 (kb : Int), .slice pb (mb * kb) ccb]), TF) :: (b4, .var (.agg #[.int .i64 (ma : Int), .int .i64 (ka : Int), .slice pa (ma * ka) cca]), TF) :: M) (ULe.refl _) sbk ?_
      exact sk_cut (E' := [(0, .int .i64 (P.1 : Int)), (4, .pointer (some ⟨b4, 0, none⟩)), (5, .pointer (some ⟨b5, 0, none⟩))]) ⟨rfl, rfl, rfl, trivial⟩ ⟨trivial, rfl, uc, rfl⟩
  rintro E U3 M' ⟨-, rfl, hU3, rfl⟩
  repeat (first | refine run_S ?_ | refine w_box (fun _ => ?_) | refine w_al (fun _ => ?_))
  refine sl_call rfl rfl rfl rfl rfl rfl (fun _ => fEchelon_ct (P := P) (hA.mm uc) hp (by omega) (by omega)) ?_
  rintro v4 U4 D hU4 ⟨r1, R1, p1, _, _, rfl, h4, h4p, rfl, hE1⟩
  rw [List.nil_append]
  obtain ⟨_, rfl, p4, c4, us4, rfl, -⟩ := id h4
  obtain ⟨p5, c5, us5, rfl, -⟩ := id h4p
  repeat (first | refine run_S ?_ | refine w_box (fun _ => ?_) | refine w_al (fun _ => ?_))
  refine sl_call rfl rfl rfl rfl rfl rfl (fun _ => fRank_ct (P := P) (hA.mm uc) hp (by omega) (by omega)) ?_
  rintro v5 U5 D hU5 ⟨r2, R2, p2, rfl, hE2, -, rfl⟩
  rw [List.nil_append]
  obtain ⟨rfl, -, -⟩ := hE1.ech.unique hE2.ech (hE1.same.trans hE2.same.symm)
  repeat (first | refine run_S ?_ | refine w_box (fun _ => ?_) | refine w_al (fun _ => ?_))
  refine sl_call rfl rfl rfl rfl rfl rfl (fun _ => fKernel_ct (P := P) (hA.mm uc) hp (by omega) (by omega)) ?_
  rintro v6 U6 D hU6 ⟨s1, K1, q1, _, rfl, h6, rfl, hK1, r3, R3, p3, hE3, hs1⟩
  rw [List.nil_append]
  obtain ⟨_, rfl, p6, c6, us6, rfl, -⟩ := id h6
  obtain ⟨rfl, -, -⟩ := hE1.ech.unique hE3.ech (hE1.same.trans hE3.same.symm)
  have hr1 := hE1.le
  have hrc1 : r1 * ka ≤ 5 * 5 := Nat.mul_le_mul (by omega) hka
  have hsm1 : s1 * ma ≤ 5 * 5 := Nat.mul_le_mul (by omega) hma
  repeat (first | refine run_S ?_ | refine w_box (fun _ => ?_) | refine w_al (fun _ => ?_))
  refine st_drawM [6, 10, 11] [0, 1, 2, 3, 4, 5, 6, 7, 8, 9, 10, 11] sym (by kernel_rfl) ?_
  repeat (first | refine run_S ?_ | refine w_box (fun _ => ?_) | refine w_al (fun _ => ?_))
  refine sl_call rfl rfl rfl rfl rfl rfl (fun _ => z13Rows_ct (P := P) (hA.mm uc) (by omega) (by omega) (by omega) (by omega)) ?_
  rintro v7 U7 D hU7 ⟨h7, rfl⟩
  rw [List.nil_append]
  obtain ⟨p7, c7, us7, rfl, -⟩ := id h7
  refine sl_call rfl rfl rfl rfl rfl rfl (fun _ => z13Echelon_ct (P := P) (h7.up KeptC.out uc (List.nil_sublist _)) (by omega) (by omega) (by omega)) ?_
  rintro v8 U8 D hU8 ⟨r4, R4, p8, _, _, rfl, h8, h8p, rfl, hE4, hS4, -⟩
  rw [List.nil_append]
  obtain ⟨p9, c9, us9, rfl, -⟩ := id h8
  obtain ⟨p10, c10, us10, rfl, -⟩ := id h8p
  obtain ⟨rfl, hpv, hRR⟩ := hE1.ech.unique hE4 (hE1.same.trans hS4.symm)
  repeat (first | refine run_S ?_ | refine w_box (fun _ => ?_) | refine w_al (fun _ => ?_))
  refine st_drawM [3, 4, 5, 7, 8, 9, 16, 17, 18, 22, 23, 24, 29, 30, 36, 37, 38, 46, 47] [0, 1, 2, 3, 4, 5, 6, 7, 8, 9, 10, 11, 12, 13, 14, 15, 16, 17, 18, 19, 20, 21, 22, 23, 24, 25, 26, 27, 28, 29, 30, 31, 32, 33, 34, 35, 36, 37, 38, 39, 40, 41, 42, 43, 44, 45, 46, 47] sym (by kernel_rfl) ?_
  repeat (first | refine run_S ?_ | refine w_box (fun _ => ?_) | refine w_al (fun _ => ?_))
  refine sl_gdec rfl rfl (fun h => absurd rfl h) (fun _ => ?_)
  repeat (first | refine run_S ?_ | refine w_box (fun _ => ?_) | refine w_al (fun _ => ?_))
  refine sl_gdec rfl rfl (fun h => absurd rfl h) (fun _ => ?_)
  repeat (first | refine run_S ?_ | refine w_box (fun _ => ?_) | refine w_al (fun _ => ?_))
  refine sl_gdec rfl rfl (fun h => absurd rfl h) (fun _ => ?_)
  repeat (first | refine run_S ?_ | refine w_box (fun _ => ?_) | refine w_al (fun _ => ?_))
  refine sl_call rfl rfl rfl rfl rfl rfl (fun _ => z13Of_ct (P := P) (r := r1) (c := ka) (Lgz.of_s (h8.up KeptC.out uc (List.nil_sublist _))) (by omega) (by omega)) ?_
  rintro v11 U11 D11 hU11 ⟨h11, rfl⟩
  rw [List.nil_append]
  obtain ⟨_, rfl, p11, c11, us11, rfl, -⟩ := id h11
  refine sl_call rfl rfl rfl rfl rfl rfl (fun _ => bSameFMatrix_ct (ok1 := Vf P) (ok2 := Vf P) (fun x : Fp P => (x.v : Int)) (fun x : Fp P => (x.v : Int)) (fun _ _ _ h => h) (fun _ _ _ h => h) (h4.mm uc) (h11.mm uc) (by omega) (by omega)) ?_
  rintro v12 U12 D12 hU12 ⟨b, rfl, hb, rfl, rfl⟩
  obtain rfl := hb.2 ⟨rfl, rfl, fun i j hi hj => by rw [hRR i j hi hj]⟩
  rw [List.nil_append]
  repeat (first | refine run_S ?_ | refine w_box (fun _ => ?_) | refine w_al (fun _ => ?_))
  refine sl_call rfl rfl rfl rfl rfl rfl (fun _ => bInts_ct (ok1 := Vi) (ok2 := Vi) (m := r1) (n := r1) (fun k : Nat => (k : Int)) (fun k : Nat => (k : Int)) (fun _ _ _ h => h) (fun _ _ _ h => h) (h4p.up kept_i uc (List.nil_sublist _)) (h8p.up kept_i uc (List.nil_sublist _)) (by omega) (by omega)) ?_
  rintro v13 U13 D13 hU13 ⟨b, rfl, hb, rfl, rfl⟩
  obtain rfl := hb.2 ⟨rfl, fun i hi => by rw [hpv i hi]⟩
  rw [List.nil_append]
  repeat (first | refine run_S ?_ | refine w_box (fun _ => ?_) | refine w_al (fun _ => ?_))
  refine sl_gdec rfl rfl (fun h => absurd rfl h) (fun _ => ?_)
  repeat (first | refine run_S ?_ | refine w_box (fun _ => ?_) | refine w_al (fun _ => ?_))
  refine sl_call rfl rfl rfl rfl rfl rfl (fun _ => z13Kernel_ct (P := P) (hA.mm uc) (by omega) (by omega) (by omega)) ?_
  rintro v14 U14 D14 hU14 ⟨s2, K2, q2, h14, rfl, hK2⟩
  rw [List.nil_append]
  obtain ⟨_, rfl, p14, c14, us14, rfl, -⟩ := id h14
  obtain ⟨rfl, -, hKK⟩ := hK1.unique hK2
  refine sl_call rfl rfl rfl rfl rfl rfl (fun _ => bSameFMatrix_ct (ok1 := Vf P) (ok2 := Vf P) (fun x : Fp P => (x.v : Int)) (fun x : Fp P => (x.v : Int)) (fun _ _ _ h => h) (fun _ _ _ h => h) (h6.mm uc) (h14.mm uc) (by omega) (by omega)) ?_
  rintro v12 U12 D12 hU12 ⟨b, rfl, hb, rfl, rfl⟩
  obtain rfl := hb.2 ⟨rfl, rfl, fun i j hi hj => by rw [hKK i j hi hj]⟩
  rw [List.nil_append]
  repeat (first | refine run_S ?_ | refine w_box (fun _ => ?_) | refine w_al (fun _ => ?_))
  refine st_dec rfl (fun h => absurd h (by omega)) (fun _ => ?_)
  repeat (first | refine run_S ?_ | refine w_box (fun _ => ?_) | refine w_al (fun _ => ?_))
  refine st_ne rfl (fun h => ?_) (fun h => ?_)
  · repeat (first | refine run_S ?_ | refine w_box (fun _ => ?_) | refine w_al (fun _ => ?_))
    exact sk_ret [] sym rfl (.cons (.tmp rfl) .nil) uc sb (.inl rfl) rfl
  obtain rfl : ka = ma := by omega
  repeat (first | refine run_S ?_ | refine w_box (fun _ => ?_) | refine w_al (fun _ => ?_))
  refine sl_call rfl rfl rfl rfl rfl rfl (fun _ => fDet_ct (P := P) (hA.mm uc) hp (by omega)) ?_
  rintro v15 U15 D15 hU15 ⟨rfl, -, rfl⟩
  rw [List.nil_append]
  repeat (first | refine run_S ?_ | refine w_box (fun _ => ?_) | refine w_al (fun _ => ?_))
  refine sl_call rfl rfl rfl rfl rfl rfl (fun _ => fCharPoly_ct (P := P) (hA.mm uc) hp (by omega)) ?_
  rintro v16 U16 D16 hU16 ⟨_, rfl, h16, rfl⟩
  rw [List.nil_append]
  obtain ⟨p16, c16, us16, rfl, -⟩ := id h16
  repeat (first | refine run_S ?_ | refine w_box (fun _ => ?_) | refine w_al (fun _ => ?_))
  refine sl_gdec rfl rfl (fun _ => ?_) (fun h => absurd rfl h)
  repeat (first | refine run_S ?_ | refine w_box (fun _ => ?_) | refine w_al (fun _ => ?_))
  refine sl_gdec rfl rfl (fun _ => ?_) (fun h => absurd rfl h)
  repeat (first | refine run_S ?_ | refine w_box (fun _ => ?_) | refine w_al (fun _ => ?_))
  refine sl_call rfl rfl rfl rfl rfl rfl (fun _ => z13Det_ct (P := P) (hA.mm uc) hp (by omega)) ?_
  rintro v17 U17 D17 hU17 ⟨rfl, -, rfl⟩
  rw [List.nil_append]
  repeat (first | refine run_S ?_ | refine w_box (fun _ => ?_) | refine w_al (fun _ => ?_))
  refine sl_gdec rfl rfl (fun _ => ?_) (fun h => absurd rfl h)
  repeat (first | refine run_S ?_ | refine w_box (fun _ => ?_) | refine w_al (fun _ => ?_))
  refine sl_call rfl rfl rfl rfl rfl rfl (fun _ => z13CharPoly_ct (P := P) (hA.mm uc) hp (by omega) (fl_lift hp (by omega))) ?_
  rintro v18 U18 D18 hU18 ⟨h18, rfl⟩
  rw [List.nil_append]
  obtain ⟨p18, c18, us18, rfl, -⟩ := id h18
  repeat (first | refine run_S ?_ | refine w_box (fun _ => ?_) | refine w_al (fun _ => ?_))
  refine sl_call rfl rfl rfl rfl rfl rfl (fun _ => bInts_ct (ok1 := Vf P) (ok2 := Vf P) (m := ka + 1) (n := ka + 1) (fun x : Fp P => (x.v : Int)) (fun x : Fp P => (x.v : Int)) (fun _ _ _ h => h) (fun _ _ _ h => h) (h16.up KeptC.out uc (List.nil_sublist _)) (h18.up KeptC.out uc (List.nil_sublist _)) (by omega) (by omega)) ?_
  rintro v19 U19 D19 hU19 ⟨b, rfl, hb, rfl, rfl⟩
  obtain rfl := hb.2 ⟨rfl, fun _ _ => rfl⟩
  rw [List.nil_append]
  repeat (first | refine run_S ?_ | refine w_box (fun _ => ?_) | refine w_al (fun _ => ?_))
  refine sk_ret [] sym rfl (.cons (.tmp rfl) .nil) uc sb (.inl rfl) ?_
  have hiff : (((La.det ka (Ofm P A)).v : Nat) : Int) ≠ 0 ↔ (r1 : Int) = (ka : Int) := ⟨fun h => by
    have := hE1.det.1 (fun e => h (by rw [e, Fq.v_zero]; rfl))
    omega, fun h e => hE1.det.2 (by omega) (Fq.v_eq_zero.1 (by omega))⟩
  refine congrArg Value.bool ?_
  rw [dec_eq, dec_eq, decide_eq_decide.2 hiff, beq_self_eq_true]
end Go.Proofs.YtpigpikhjlmdoaaGreat
