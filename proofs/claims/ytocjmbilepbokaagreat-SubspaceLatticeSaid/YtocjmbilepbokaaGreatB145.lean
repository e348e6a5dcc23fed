/- Laws of layer 10: the lattice of subspaces. -/
import Derived.Test.YtocjmbilepbokaaGreatM33
namespace Go.Proofs.YtocjmbilepbokaaGreat
open Go.Hp
variable {G : World} {U U' : UH} {M M' : MH}

theorem same_spans {r s n : Nat} {R S : Nat → Nat → Rat} {p q : Nat → Nat} (h : La.Ech r n R p) (k : La.Ech s n S q) (e : ∀ v, La.Sp r n R v ↔ La.Sp s n S v) : r = s ∧ n = n ∧ ∀ i j, i < r → j < n → R i j = S i j := by
  obtain ⟨h1, -, h2⟩ := h.unique k ⟨fun i hi => (e _).1 (La.Sp.row hi), fun i hi => (e _).2 (La.Sp.row hi)⟩
  exact ⟨h1, rfl, h2⟩
theorem same_bool {a b : Bool} {p : Prop} (ha : a = true ↔ p) (hb : b = true ↔ p) : a = b := by
  rw [Bool.eq_iff_iff, ha, hb]
theorem neq_same (b : Bool) : (!(b == b)) = false := by cases b <;> rfl
theorem VldS.get' {v : Value} {d r c : Int} {n : Nat} {f : Nat → Rat} (h : VldS d r c n f) (hl : LitS U v d r c n f) : ∃ (R C : Nat) (q : Nat → Nat), d = (C : Int) ∧ r = (R : Int) ∧ c = (C : Int) ∧ n = R * C ∧ R ≤ 6 ∧ C ≤ 6 ∧ Sv (Wq 1) R C U v (fun i j => f (i * C + j)) ∧ La.Ech R C (fun i j => f (i * C + j)) q ∧ Hw (1 * 37 + 1) R C (fun i j => f (i * C + j)) := by
  obtain ⟨R, C, q, h1, h2, h3, h4, h5, h6, h7⟩ := h.get hl
  have hn : n = R * C := by
    have := h.1.2.2.2.2
    rw [h2, h3, ← Int.natCast_mul] at this
    omega
  exact ⟨R, C, q, h1, h2, h3, hn, h4, h5, h6, h7, hw_short (a := 1) (fun i j hi hj => h6.sz (Nat.le_refl 1) hi hj) h4 h5⟩

set_option maxHeartbeats 2000000 in
set_option maxRecDepth 100000 in
theorem SubspaceLattice_ct {va vb : Value} {da ra ca db rb cb : Int} {na nb : Nat} {fa fb : Nat → Rat} (ha : RawS U va da ra ca na fa) (hb : RawS U vb db rb cb nb fb) :
    Ct Tryz.prog 6 [va, vb] G U M fun v _ _ => v = .bool true := by
  have ha0 := ha
  have hb0 := hb
  obtain ⟨-, _, rfl, -, -, hna, _, he, pa, cca, asa, rfl, -⟩ := ha
  simp only [Value.agg.injEq, Array.mk.injEq, List.cons.injEq, and_true, true_and] at he
  subst he
  obtain ⟨-, _, rfl, -, -, hnb, _, he, pb, ccb, asb, rfl, -⟩ := hb
  simp only [Value.agg.injEq, Array.mk.injEq, List.cons.injEq, and_true, true_and] at he
  subst he
  refine ct_of_st Tryz.func6 rfl rfl rfl rfl ?_
  repeat (first | refine run_S ?_ | refine w_box (fun _ => ?_) | refine w_al (fun _ => ?_))
  rename_i b2 b3
  refine sl_call rfl rfl rfl rfl rfl rfl (fun _ => awake10_ct) ?_
  rintro v1 U1 D1 hU1 ⟨rfl, -, rfl⟩
  try rw [List.nil_append]
  repeat (first | refine run_S ?_ | refine w_box (fun _ => ?_) | refine w_al (fun _ => ?_))
  refine sl_bslice (vs := [.agg #[.int .i64 da, .int .i64 ra, .int .i64 ca, .slice pa na cca], .agg #[.int .i64 db, .int .i64 rb, .int .i64 cb, .slice pb nb ccb]]) sym rfl rfl rfl rfl rfl rfl (all_size rfl) rfl rfl rfl rfl rfl rfl (fun bl => ?_)
  have hrl := (RowO.mk (e := TS) (s := 4) (b := bl) (n := 2) (vs := [.agg #[.int .i64 da, .int .i64 ra, .int .i64 ca, .slice pa na cca], .agg #[.int .i64 db, .int .i64 rb, .int .i64 cb, .slice pb nb ccb]]) rfl (all_size rfl) (by omega)).at (U := U1) (M := (bl, .arr [.agg #[.int .i64 da, .int .i64 ra, .int .i64 ca, .slice pa na cca], .agg #[.int .i64 db, .int .i64 rb, .int .i64 cb, .slice pb nb ccb]], TS) :: (b3, .var (.agg #[.int .i64 db, .int .i64 rb, .int .i64 cb, .slice pb nb ccb]), TS) :: (b2, .var (.agg #[.int .i64 da, .int .i64 ra, .int .i64 ca, .slice pa na cca]), TS) :: M) sb
  refine sl_call rfl rfl rfl rfl rfl rfl (fun _ => fit_ct (U := U1) (d := fun k => if k = 0 then da else db) (r := fun k => if k = 0 then ra else rb) (c := fun k => if k = 0 then ca else cb) (n := fun k => if k = 0 then na else nb) (f := fun k => if k = 0 then fa else fb) (hrl.up uc sb) (two_rows (P := fun k v => RawS U1 v (if k = 0 then da else db) (if k = 0 then ra else rb) (if k = 0 then ca else cb) (if k = 0 then na else nb) (if k = 0 then fa else fb)) (ha0.up uc) (hb0.up uc)) (by decide)) ?_
  rintro v2 U2 D2 hU2 ⟨rfl, b, rfl, hl⟩
  try rw [List.nil_append]
  cases b
  · repeat (first | refine run_S ?_ | refine w_box (fun _ => ?_) | refine w_al (fun _ => ?_))
    exact sk_ret [] sym rfl (.cons (.tmp rfl) .nil) uc sb (.inl rfl) rfl
  obtain ⟨la, va1, -, -⟩ : LitS U2 _ da ra ca na fa ∧ VldS da ra ca na fa ∧ da = da ∧ da ≤ 6 := hl rfl 0 _ rfl
  obtain ⟨lb, vb1, hd, -⟩ : LitS U2 _ db rb cb nb fb ∧ VldS db rb cb nb fb ∧ db = da ∧ db ≤ 6 := hl rfl 1 _ rfl
  clear hl hrl ha0 hb0
  obtain ⟨Ra, n, qa, rfl, rfl, rfl, rfl, hRa, hn, sav, eA, wA⟩ := va1.get' la
  obtain ⟨Rb, n2, qb, rfl, rfl, rfl, rfl, hRb, -, sbv, eB, wB⟩ := vb1.get' lb
  obtain rfl : n = n2 := by omega
  generalize (fun i j => fa (i * n + j)) = A at sav eA wA
  generalize (fun i j => fb (i * n + j)) = B at sbv eB wB
  clear hd va1 vb1 la lb
  have hran : Ra * n ≤ 6 * 6 := Nat.mul_le_mul hRa hn
  repeat (first | refine run_S ?_ | refine w_box (fun _ => ?_) | refine w_al (fun _ => ?_))
  refine sl_call rfl rfl rfl rfl rfl rfl (fun _ => sSum_ok (kept_s kept_w _ _ _ _ uc sav) (kept_s kept_w _ _ _ _ uc sbv) eA eB (by decide) (by decide) hn) ?_
  rintro v3 U3 D3 hU3 ⟨_, s, S, ps, rfl, hS, eS, mS, rfl⟩
  try rw [List.nil_append]
  have hs6 := Nat.le_trans eS.le_n hn
  have hsn : s * n ≤ 6 * 6 := Nat.mul_le_mul (Nat.le_trans eS.le_n hn) hn
  obtain ⟨_, rfl, p3, c3, s3, rfl, -⟩ := id hS
  repeat (first | refine run_S ?_ | refine w_box (fun _ => ?_) | refine w_al (fun _ => ?_))
  refine sl_call rfl rfl rfl rfl rfl rfl (fun _ => sIntersect_ok (w := 1 * 37 + 1) (kept_s kept_w _ _ _ _ uc sav) (kept_s kept_w _ _ _ _ uc sbv) eA eB wA wB (by decide) (by decide) (by decide) hn) ?_
  rintro v4 U4 D4 hU4 ⟨_, i, I, pi, rfl, hI, eI, mI, -, rfl⟩
  try rw [List.nil_append]
  have hi6 := Nat.le_trans eI.le_n hn
  have hin : i * n ≤ 6 * 6 := Nat.mul_le_mul (Nat.le_trans eI.le_n hn) hn
  obtain ⟨_, rfl, p4, c4, s4, rfl, -⟩ := id hI
  repeat (first | refine run_S ?_ | refine w_box (fun _ => ?_) | refine w_al (fun _ => ?_))
  refine sl_call rfl rfl rfl rfl rfl rfl (fun _ => sWithin_ok (kept_s kept_w _ _ _ _ uc sav) (kept_s kept_w _ _ _ _ uc sbv) eA eB (by decide) (by decide) (by decide) (by decide) hn) ?_
  rintro v5 U5 D5 hU5 ⟨w, rfl, hw, rfl⟩
  try rw [List.nil_append]
  repeat (first | refine run_S ?_ | refine w_box (fun _ => ?_) | refine w_al (fun _ => ?_))
  refine st_draw [0, 1, 2, 3, 4, 5, 6, 7, 8, 9, 10, 11, 12, 13, 14, 15, 16, 17, 18, 19, 20, 21, 22, 23, 24, 25, 26, 27, 28, 29, 30, 31, 32] sym (by kernel_rfl) ?_
  repeat (first | refine run_S ?_ | refine w_box (fun _ => ?_) | refine w_al (fun _ => ?_))
  refine sl_gdec rfl rfl (fun h => absurd rfl h) (fun _ => ?_)
  repeat (first | refine run_S ?_ | refine w_box (fun _ => ?_) | refine w_al (fun _ => ?_))
  refine sl_gdec rfl rfl (fun h => absurd rfl h) (fun _ => ?_)
  repeat (first | refine run_S ?_ | refine w_box (fun _ => ?_) | refine w_al (fun _ => ?_))
  refine sl_gdec rfl rfl (fun h => absurd rfl h) (fun _ => ?_)
  repeat (first | refine run_S ?_ | refine w_box (fun _ => ?_) | refine w_al (fun _ => ?_))
  refine sl_call rfl rfl rfl rfl rfl rfl (fun _ => r10Within_ct (kept_s kept_w _ _ _ _ uc sav) (kept_s kept_w _ _ _ _ uc sbv) eB hRa (by decide) (by decide) (by decide) (by decide) hn) ?_
  rintro v6 U6 D6 hU6 ⟨w', rfl, hw', rfl⟩
  try rw [List.nil_append]
  obtain rfl : w = w' := same_bool hw hw'
  repeat (first | refine run_O ?_ | refine w_box (fun _ => ?_) | refine w_al (fun _ => ?_))
  rw [neq_same]
  repeat (first | refine run_S ?_ | refine w_box (fun _ => ?_) | refine w_al (fun _ => ?_))
  refine sl_call rfl rfl rfl rfl rfl rfl (fun _ => r10Sum_ct (kept_s kept_w _ _ _ _ uc sav) (kept_s kept_w _ _ _ _ uc sbv) (by decide) (by decide) hRa hRb hn) ?_
  rintro v7 U7 D7 hU7 ⟨s', S', ps', hS', eS', mS', rfl⟩
  try rw [List.nil_append]
  have hsn' : s' * n ≤ 6 * 6 := Nat.mul_le_mul (Nat.le_trans eS'.le_n hn) hn
  refine sl_call rfl rfl rfl rfl rfl rfl (fun _ => bSameSpace_ct (kept_s kept_q _ _ _ _ uc hS) (kept_s kept_q _ _ _ _ uc hS') (by omega) (by omega)) ?_
  rintro v8 U8 D8 hU8 ⟨b, rfl, hb, rfl, rfl⟩
  try rw [List.nil_append]
  obtain rfl := hb.2 (same_spans eS eS' fun v => mS.sp.trans mS'.sp.symm)
  repeat (first | refine run_S ?_ | refine w_box (fun _ => ?_) | refine w_al (fun _ => ?_))
  refine sl_call rfl rfl rfl rfl rfl rfl (fun _ => r10Intersect_ct (w := 1 * 37 + 1) (kept_s kept_w _ _ _ _ uc sav) (kept_s kept_w _ _ _ _ uc sbv) eA eB wA wB (by decide) (by decide) (by decide) hn) ?_
  rintro v9 U9 D9 hU9 ⟨i', I', pi', hI', eI', mI', rfl⟩
  try rw [List.nil_append]
  have hin' : i' * n ≤ 6 * 6 := Nat.mul_le_mul (Nat.le_trans eI'.le_n hn) hn
  refine sl_call rfl rfl rfl rfl rfl rfl (fun _ => bSameSpace_ct (kept_s kept_q _ _ _ _ uc hI) (kept_s kept_q _ _ _ _ uc hI') (by omega) (by omega)) ?_
  rintro v10 U10 D10 hU10 ⟨b, rfl, hb, rfl, rfl⟩
  try rw [List.nil_append]
  obtain rfl := hb.2 (same_spans eI eI' fun v => (mI v).trans (mI' v).symm)
  repeat (first | refine run_S ?_ | refine w_box (fun _ => ?_) | refine w_al (fun _ => ?_))
  have h1 := La.dim_sum eA eB eS eI mS mI
  have h2 := La.within_dim (B := B) (b := Rb) eA eI mI
  refine sl_gdec rfl rfl (fun _ => ?_) (fun h => absurd (by omega) h)
  repeat (first | refine run_S ?_ | refine w_box (fun _ => ?_) | refine w_al (fun _ => ?_))
  exact sk_ret [] sym rfl (.cons (.tmp rfl) .nil) uc sb (.inl rfl) (by rw [same_bool hw ((show dec ((i : Int) = (Ra : Int)) = true ↔ i = Ra from ⟨fun h => by have := of_dec h; omega, fun h => dec_true (by omega)⟩).trans h2.symm), beq_self_eq_true]; rfl)

end Go.Proofs.YtocjmbilepbokaaGreat
