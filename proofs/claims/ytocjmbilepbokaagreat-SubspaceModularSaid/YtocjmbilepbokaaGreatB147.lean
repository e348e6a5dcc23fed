/- Laws of layer 10: the modular law, complements and annihilators. -/
import Derived.Test.YtocjmbilepbokaaGreatB146
namespace Go.Proofs.YtocjmbilepbokaaGreat
open Go.Hp
variable {G : World} {U U' : UH} {M M' : MH}

theorem sp_add {r n : Nat} {A : Nat → Nat → Rat} {u v w : Nat → Rat} (hu : La.Sp r n A u) (hv : La.Sp r n A v) (e : ∀ j, j < n → w j = u j + v j) : La.Sp r n A w :=
  (hu.comb 1 hv).congr (fun _ _ _ _ => rfl) fun j hj => by rw [e j hj, Rat.one_mul]
theorem sp_sub {r n : Nat} {A : Nat → Nat → Rat} {u v w : Nat → Rat} (hu : La.Sp r n A u) (hv : La.Sp r n A v) (e : ∀ j, j < n → w j = u j - v j) : La.Sp r n A w :=
  (hu.comb (-1) hv).congr (fun _ _ _ _ => rfl) fun j hj => by rw [e j hj]; grind

theorem modular {a b c s l i r n : Nat} {A B C S L I R : Nat → Nat → Rat} (hB : ∀ v, La.Sp b n B v → La.Sp a n A v) (hS : La.Same s (b + c) n S (La.stack b B C)) (hL : ∀ v, La.Sp l n L v ↔ La.Sp a n A v ∧ La.Sp s n S v)
    (hI : ∀ v, La.Sp i n I v ↔ La.Sp a n A v ∧ La.Sp c n C v) (hR : La.Same r (b + i) n R (La.stack b B I)) (v : Nat → Rat) : La.Sp l n L v ↔ La.Sp r n R v := by
  rw [hL, hS.sp, hR.sp, La.sp_stack, La.sp_stack]
  constructor
  · rintro ⟨h1, u, w, h2, h3, h4⟩
    exact ⟨u, w, h2, (hI w).2 ⟨sp_sub h1 (hB u h2) fun j hj => by rw [h4 j hj]; grind, h3⟩, h4⟩
  · rintro ⟨u, w, h2, h3, h4⟩
    obtain ⟨h5, h6⟩ := (hI w).1 h3
    exact ⟨sp_add (hB u h2) h5 h4, u, w, h2, h6, h4⟩

set_option maxHeartbeats 2000000 in
set_option maxRecDepth 100000 in
theorem SubspaceModular_ct {va vb vc : Value} {da ra ca db rb cb dc rc cc : Int} {na nb nc : Nat} {fa fb fc : Nat → Rat} (ha : RawS U va da ra ca na fa) (hb : RawS U vb db rb cb nb fb) (hc : RawS U vc dc rc cc nc fc) :
    Ct Tryz.prog 3 [va, vb, vc] G U M fun v _ _ => v = .bool true := by
  have ha0 := ha
  have hb0 := hb
  have hc0 := hc
  obtain ⟨-, _, rfl, -, -, hna, _, he, pa, cca, asa, rfl, -⟩ := ha
  simp only [Value.agg.injEq, Array.mk.injEq, List.cons.injEq, and_true, true_and] at he
  subst he
  obtain ⟨-, _, rfl, -, -, hnb, _, he, pb, ccb, asb, rfl, -⟩ := hb
  simp only [Value.agg.injEq, Array.mk.injEq, List.cons.injEq, and_true, true_and] at he
  subst he
  obtain ⟨-, _, rfl, -, -, hnc, _, he, pc, ccc, asc, rfl, -⟩ := hc
  simp only [Value.agg.injEq, Array.mk.injEq, List.cons.injEq, and_true, true_and] at he
  subst he
  refine ct_of_st Tryz.func3 rfl rfl rfl rfl ?_
  repeat (first | refine run_S ?_ | refine w_box (fun _ => ?_) | refine w_al (fun _ => ?_))
  rename_i b3 b4 b5
  refine sl_call rfl rfl rfl rfl rfl rfl (fun _ => awake10_ct) ?_
  rintro v1 U1 D1 hU1 ⟨rfl, -, rfl⟩
  try rw [List.nil_append]
  repeat (first | refine run_S ?_ | refine w_box (fun _ => ?_) | refine w_al (fun _ => ?_))
  refine sl_bslice (vs := [.agg #[.int .i64 da, .int .i64 ra, .int .i64 ca, .slice pa na cca], .agg #[.int .i64 db, .int .i64 rb, .int .i64 cb, .slice pb nb ccb], .agg #[.int .i64 dc, .int .i64 rc, .int .i64 cc, .slice pc nc ccc]]) sym rfl rfl rfl rfl rfl rfl (all_size rfl) rfl rfl rfl rfl rfl rfl (fun bl => ?_)
  have hrl := (RowO.mk (e := TS) (s := 4) (b := bl) (n := 3) (vs := [.agg #[.int .i64 da, .int .i64 ra, .int .i64 ca, .slice pa na cca], .agg #[.int .i64 db, .int .i64 rb, .int .i64 cb, .slice pb nb ccb], .agg #[.int .i64 dc, .int .i64 rc, .int .i64 cc, .slice pc nc ccc]]) rfl (all_size rfl) (by omega)).at (U := U1) (M := (bl, .arr [.agg #[.int .i64 da, .int .i64 ra, .int .i64 ca, .slice pa na cca], .agg #[.int .i64 db, .int .i64 rb, .int .i64 cb, .slice pb nb ccb], .agg #[.int .i64 dc, .int .i64 rc, .int .i64 cc, .slice pc nc ccc]], TS) :: (b5, .var (.agg #[.int .i64 dc, .int .i64 rc, .int .i64 cc, .slice pc nc ccc]), TS) :: (b4, .var (.agg #[.int .i64 db, .int .i64 rb, .int .i64 cb, .slice pb nb ccb]), TS) :: (b3, .var (.agg #[.int .i64 da, .int .i64 ra, .int .i64 ca, .slice pa na cca]), TS) :: M) sb
  refine sl_call rfl rfl rfl rfl rfl rfl (fun _ => fit_ct (U := U1) (d := fun k => if k = 0 then da else if k = 1 then db else dc) (r := fun k => if k = 0 then ra else if k = 1 then rb else rc) (c := fun k => if k = 0 then ca else if k = 1 then cb else cc) (n := fun k => if k = 0 then na else if k = 1 then nb else nc) (f := fun k => if k = 0 then fa else if k = 1 then fb else fc) (hrl.up uc sb) (three_rows (P := fun k v => RawS U1 v (if k = 0 then da else if k = 1 then db else dc) (if k = 0 then ra else if k = 1 then rb else rc) (if k = 0 then ca else if k = 1 then cb else cc) (if k = 0 then na else if k = 1 then nb else nc) (if k = 0 then fa else if k = 1 then fb else fc)) (ha0.up uc) (hb0.up uc) (hc0.up uc)) (by decide)) ?_
  rintro v2 U2 D2 hU2 ⟨rfl, b, rfl, hl⟩
  try rw [List.nil_append]
  cases b
  · repeat (first | refine run_S ?_ | refine w_box (fun _ => ?_) | refine w_al (fun _ => ?_))
    exact sk_ret [] sym rfl (.cons (.tmp rfl) .nil) uc sb (.inl rfl) rfl
  obtain ⟨la, va1, -, -⟩ : LitS U2 _ da ra ca na fa ∧ VldS da ra ca na fa ∧ da = da ∧ da ≤ 6 := hl rfl 0 _ rfl
  obtain ⟨lb, vb1, hd, -⟩ : LitS U2 _ db rb cb nb fb ∧ VldS db rb cb nb fb ∧ db = da ∧ db ≤ 6 := hl rfl 1 _ rfl
  obtain ⟨lc, vc1, hd2, -⟩ : LitS U2 _ dc rc cc nc fc ∧ VldS dc rc cc nc fc ∧ dc = da ∧ dc ≤ 6 := hl rfl 2 _ rfl
  clear hl hrl ha0 hb0 hc0
  obtain ⟨Ra, n, qa, rfl, rfl, rfl, rfl, hRa, hn, sav, eA, wA⟩ := va1.get' la
  obtain ⟨Rb, n2, qb, rfl, rfl, rfl, rfl, hRb, -, sbv, eB, wB⟩ := vb1.get' lb
  obtain ⟨Rc, n3, qc, rfl, rfl, rfl, rfl, hRc, -, scv, eC, wC⟩ := vc1.get' lc
  obtain rfl : n = n2 := by omega
  obtain rfl : n = n3 := by omega
  generalize (fun i j => fa (i * n + j)) = A at sav eA wA
  generalize (fun i j => fb (i * n + j)) = B at sbv eB wB
  generalize (fun i j => fc (i * n + j)) = C at scv eC wC
  clear hd hd2 va1 vb1 vc1 la lb lc
  repeat (first | refine run_S ?_ | refine w_box (fun _ => ?_) | refine w_al (fun _ => ?_))
  refine sl_call rfl rfl rfl rfl rfl rfl (fun _ => sIntersect_ok (w := 1 * 37 + 1) (kept_s kept_w _ _ _ _ uc sav) (kept_s kept_w _ _ _ _ uc sbv) eA eB wA wB (by decide) (by decide) (by decide) hn) ?_
  rintro v3 U3 D3 hU3 ⟨_, i, I, pi, rfl, hI, eI, mI, gI, rfl⟩
  try rw [List.nil_append]
  have wI := (gI.hw eI hn).mono (show 6 * (6 * (1 * 37 + 1) + 1) + 1 ≤ 1375 by decide)
  have hIw := hI.w fun i j hi hj => wI.szq (by decide) hi hj
  obtain ⟨_, rfl, p3, c3, s3, rfl, -⟩ := id hI
  repeat (first | refine run_S ?_ | refine w_box (fun _ => ?_) | refine w_al (fun _ => ?_))
  refine sl_call rfl rfl rfl rfl rfl rfl (fun _ => sSum_ok (b := 1375) (kept_s kept_w _ _ _ _ uc hIw) (kept_s kept_w _ _ _ _ uc (scv.mono (by decide))) eI eC (by decide) (by decide) hn) ?_
  rintro v4 U4 D4 hU4 ⟨_, s, S, ps, rfl, hS, eS, mS, rfl⟩
  try rw [List.nil_append]
  have gS := Gw.sum (gI.mono (show 6 * (1 * 37 + 1) + 1 ≤ 229 by decide)) (wC.gen.mono (show 1 * 37 + 1 ≤ 229 by decide)) mS
  have wS := (gS.hw eS hn).mono (show 6 * 229 + 1 ≤ 1375 by decide)
  have hSw := hS.w fun i j hi hj => wS.szq (by decide) hi hj
  obtain ⟨_, rfl, p4, c4, s4, rfl, -⟩ := id hS
  repeat (first | refine run_S ?_ | refine w_box (fun _ => ?_) | refine w_al (fun _ => ?_))
  refine sl_call rfl rfl rfl rfl rfl rfl (fun _ => sIntersect_ok (w := 1375) (b := 1375) (kept_s kept_w _ _ _ _ uc (sav.mono (by decide))) (kept_s kept_w _ _ _ _ uc hSw) eA eS (wA.mono (by decide)) wS (by decide) (by decide) (by decide) hn) ?_
  rintro v5 U5 D5 hU5 ⟨_, l, L, pl, rfl, hL, eL, mL, -, rfl⟩
  try rw [List.nil_append]
  have hln : l * n ≤ 6 * 6 := Nat.mul_le_mul (Nat.le_trans eL.le_n hn) hn
  obtain ⟨_, rfl, p5, c5, s5, rfl, -⟩ := id hL
  repeat (first | refine run_S ?_ | refine w_box (fun _ => ?_) | refine w_al (fun _ => ?_))
  refine sl_call rfl rfl rfl rfl rfl rfl (fun _ => sIntersect_ok (w := 1 * 37 + 1) (kept_s kept_w _ _ _ _ uc sav) (kept_s kept_w _ _ _ _ uc scv) eA eC wA wC (by decide) (by decide) (by decide) hn) ?_
  rintro v6 U6 D6 hU6 ⟨_, k, J, pk, rfl, hJ, eJ, mJ, gJ, rfl⟩
  try rw [List.nil_append]
  have wJ := (gJ.hw eJ hn).mono (show 6 * (6 * (1 * 37 + 1) + 1) + 1 ≤ 1375 by decide)
  have hJw := hJ.w fun i j hi hj => wJ.szq (by decide) hi hj
  obtain ⟨_, rfl, p6, c6, s6, rfl, -⟩ := id hJ
  repeat (first | refine run_S ?_ | refine w_box (fun _ => ?_) | refine w_al (fun _ => ?_))
  refine sl_call rfl rfl rfl rfl rfl rfl (fun _ => sSum_ok (b := 1375) (kept_s kept_w _ _ _ _ uc hIw) (kept_s kept_w _ _ _ _ uc hJw) eI eJ (by decide) (by decide) hn) ?_
  rintro v7 U7 D7 hU7 ⟨_, r, R, pr, rfl, hR, eR, mR, rfl⟩
  try rw [List.nil_append]
  have hrn : r * n ≤ 6 * 6 := Nat.mul_le_mul (Nat.le_trans eR.le_n hn) hn
  obtain ⟨_, rfl, p7, c7, s7, rfl, -⟩ := id hR
  repeat (first | refine run_S ?_ | refine w_box (fun _ => ?_) | refine w_al (fun _ => ?_))
  refine sl_gdec rfl rfl (fun _ => ?_) (fun h => absurd rfl h)
  repeat (first | refine run_S ?_ | refine w_box (fun _ => ?_) | refine w_al (fun _ => ?_))
  refine sl_gdec rfl rfl (fun _ => ?_) (fun h => absurd rfl h)
  repeat (first | refine run_S ?_ | refine w_box (fun _ => ?_) | refine w_al (fun _ => ?_))
  refine sl_gdec rfl rfl (fun _ => ?_) (fun h => absurd rfl h)
  repeat (first | refine run_S ?_ | refine w_box (fun _ => ?_) | refine w_al (fun _ => ?_))
  refine sl_gdec rfl rfl (fun _ => ?_) (fun h => absurd rfl h)
  repeat (first | refine run_S ?_ | refine w_box (fun _ => ?_) | refine w_al (fun _ => ?_))
  refine sl_gdec rfl rfl (fun _ => ?_) (fun h => absurd rfl h)
  repeat (first | refine run_S ?_ | refine w_box (fun _ => ?_) | refine w_al (fun _ => ?_))
  refine sl_call rfl rfl rfl rfl rfl rfl (fun _ => bSameSpace_ct (kept_s kept_q _ _ _ _ uc hL) (kept_s kept_q _ _ _ _ uc hR) (by omega) (by omega)) ?_
  rintro v8 U8 D8 hU8 ⟨b, rfl, hb, rfl, rfl⟩
  try rw [List.nil_append]
  obtain rfl := hb.2 (same_spans eL eR (modular (fun v h => ((mI v).1 h).1) mS mL mJ mR))
  repeat (first | refine run_S ?_ | refine w_box (fun _ => ?_) | refine w_al (fun _ => ?_))
  exact sk_ret [] sym rfl (.cons (.tmp rfl) .nil) uc sb (.inl rfl) rfl

end Go.Proofs.YtocjmbilepbokaaGreat
