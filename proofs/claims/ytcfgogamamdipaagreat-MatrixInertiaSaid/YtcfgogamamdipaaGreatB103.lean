/- The law of layer 9 on determinants. -/
import Derived.Test.YtcfgogamamdipaaGreatB92
import Derived.Test.YtcfgogamamdipaaGreatB100
import Derived.Test.YtcfgogamamdipaaGreatB102
namespace Go.Proofs.YtcfgogamamdipaaGreat
open Go.Hp
variable {G : World} {U U' : UH} {M M' : MH}

theorem gro_small {k n : Nat} (hn : n ≤ 6) (hk : k ≤ 1000) : La.gro k n ≤ 5000000 ∧ 1 + n * La.gro k n ≤ 40000000 := by
  have h1 := La.gro_bd k n
  have h2 : 4 ^ n ≤ 4 ^ 6 := Nat.pow_le_pow_right (by decide) hn
  have h3 : 4 ^ n * (k + 2) ≤ 4 ^ 6 * (1000 + 2) := Nat.mul_le_mul h2 (by omega)
  have h4 : La.gro k n ≤ 5000000 := by
    have : (4 : Nat) ^ 6 * (1000 + 2) = 4104192 := by decide
    omega
  refine ⟨h4, ?_⟩
  have := Nat.mul_le_mul hn h4
  omega

theorem Lit.vm {most n : Nat} {v : Value} {r c : Int} {f : Nat → Rat} (h : Lit most U v r c n f) (hV : Vld r c n) : ∃ R C : Nat, r = (R : Int) ∧ c = (C : Int) ∧ R ≤ most ∧ C ≤ most ∧ Vm (Wq 1) R C U v (fun i j => f (i * C + j)) := by
  obtain ⟨h1, h2, a, rfl, h3⟩ := h
  obtain ⟨h4, h5⟩ := h2 hV
  obtain ⟨v1, v2, v3, v4, v5⟩ := hV
  obtain ⟨R, rfl⟩ := Int.eq_ofNat_of_zero_le v1
  obtain ⟨C, rfl⟩ := Int.eq_ofNat_of_zero_le v3
  have hn : n = R * C := by rw [← Int.natCast_mul] at v5; omega
  subst hn
  refine ⟨R, C, rfl, rfl, by omega, by omega, a, rfl, h3.congr fun k hk => ?_⟩
  obtain ⟨-, hC⟩ := fl_lt hk
  show f k = f (k / C * C + k % C)
  rw [Nat.div_add_mod']

set_option maxRecDepth 100000 in
theorem MatrixDets_ct {va vb : Value} {ra ca rb cb : Int} {na nb : Nat} {fa fb : Nat → Rat} (ha : Raw U va ra ca na fa) (hb : Raw U vb rb cb nb fb) :
    Ct Tryz.prog 3 [va, vb] G U M fun v _ _ => v = .bool true := by
  have ha0 := ha
  have hb0 := hb
  obtain ⟨ha1, ha2, ha3, _, rfl, pa, cca, asa, rfl, -⟩ := ha
  obtain ⟨hb1, hb2, hb3, _, rfl, pb, ccb, asb, rfl, -⟩ := hb
  refine ct_of_st Tryz.func3 rfl rfl rfl rfl ?_
  repeat (first | refine run_S ?_ | refine w_box (fun _ => ?_) | refine w_al (fun _ => ?_))
  rename_i b2 b3
  refine sl_call rfl rfl rfl rfl rfl rfl (fun _ => awake9_ct) ?_
  rintro v1 U1 D hU1 ⟨rfl, -, rfl⟩
  rw [List.nil_append]
  repeat (first | refine run_S ?_ | refine w_box (fun _ => ?_) | refine w_al (fun _ => ?_))
  refine sl_bslice (vs := [.agg #[.int .i64 ra, .int .i64 ca, .slice pa na cca], .agg #[.int .i64 rb, .int .i64 cb, .slice pb nb ccb]]) sym rfl rfl rfl rfl rfl rfl (all_size rfl) rfl rfl rfl rfl rfl rfl (fun bl => ?_)
  have hrl := (RowO.mk (e := TM) (s := 3) (b := bl) (n := 2) (vs := [.agg #[.int .i64 ra, .int .i64 ca, .slice pa na cca], .agg #[.int .i64 rb, .int .i64 cb, .slice pb nb ccb]]) rfl (all_size rfl) (by omega)).at (U := U1) (M := (bl, .arr [.agg #[.int .i64 ra, .int .i64 ca, .slice pa na cca], .agg #[.int .i64 rb, .int .i64 cb, .slice pb nb ccb]], TM) :: (b3, .var (.agg #[.int .i64 rb, .int .i64 cb, .slice pb nb ccb]), TM) :: (b2, .var (.agg #[.int .i64 ra, .int .i64 ca, .slice pa na cca]), TM) :: M) sb
  refine sl_call rfl rfl rfl rfl rfl rfl (fun _ => light_ct (most := 5) (r := fun k => if k = 0 then ra else rb) (c := fun k => if k = 0 then ca else cb) (n := fun k => if k = 0 then na else nb) (f := fun k => if k = 0 then fa else fb) (hrl.up uc sb) (two_rows (P := fun k v => Raw U1 v (if k = 0 then ra else rb) (if k = 0 then ca else cb) (if k = 0 then na else nb) (if k = 0 then fa else fb)) (ha0.up uc) (hb0.up uc)) (by decide) (by decide)) ?_
  rintro v2 U2 D hU2 ⟨b, rfl, hl, rfl, rfl⟩
  rw [List.nil_append]
  cases b
  · repeat (first | refine run_S ?_ | refine w_box (fun _ => ?_) | refine w_al (fun _ => ?_))
    exact sk_ret [] sym rfl (.cons (.tmp rfl) .nil) uc sb (.inl rfl) rfl
  have la : Lit 5 U1 _ ra ca na fa := hl rfl 0 _ rfl
  have lb : Lit 5 U1 _ rb cb nb fb := hl rfl 1 _ rfl
  clear hl hrl
  repeat (first | refine run_S ?_ | refine w_box (fun _ => ?_) | refine w_al (fun _ => ?_))
  refine sl_call rfl rfl rfl rfl rfl rfl (fun _ => m9Valid_ct (r := ra) (c := ca) (p := pa) (cc := cca) ha3) ?_
  rintro v U' D hU ⟨rfl, rfl, rfl⟩
  repeat (first | refine run_S ?_ | refine w_box (fun _ => ?_) | refine w_al (fun _ => ?_))
  by_cases hVa : Vld ra ca na
  · rw [decide_eq_true hVa]
    repeat (first | refine run_S ?_ | refine w_box (fun _ => ?_) | refine w_al (fun _ => ?_))
    refine sl_call rfl rfl rfl rfl rfl rfl (fun _ => m9Valid_ct (r := rb) (c := cb) (p := pb) (cc := ccb) hb3) ?_
    rintro v U' D hU ⟨rfl, rfl, rfl⟩
    repeat (first | refine run_S ?_ | refine w_box (fun _ => ?_) | refine w_al (fun _ => ?_))
    by_cases hVb : Vld rb cb nb
    · rw [decide_eq_true hVb]
      repeat (first | refine run_S ?_ | refine w_box (fun _ => ?_) | refine w_al (fun _ => ?_))
      refine st_ne rfl (fun hne => ?_) (fun heq => ?_)
      · repeat (first | refine run_S ?_ | refine w_box (fun _ => ?_) | refine w_al (fun _ => ?_))
        exact sk_ret [] sym rfl (.cons (.tmp rfl) .nil) uc sb (.inl rfl) rfl
      · obtain ⟨n, n', rfl, rfl, hn5, -, hA⟩ := la.vm hVa
        obtain ⟨R, C, rfl, rfl, hR, hC, hB⟩ := lb.vm hVb
        obtain rfl : n = n' := by omega
        generalize (fun i j => fa (i * n + j)) = A at hA
        generalize (fun i j => fb (i * C + j)) = B at hB
        have g1 := gro_small (k := 1) (n := n) (by omega) (by decide)
        have sA : ∀ i j, i < n → j < n → Szq (A i j) 1 := fun i j hi hj => hA.sz (Nat.le_refl 1) hi hj
        clear la lb
        repeat (first | refine run_S ?_ | refine w_box (fun _ => ?_) | refine w_al (fun _ => ?_))
        refine sl_call rfl rfl rfl rfl rfl rfl (fun _ => mDet_ct (kept_m kept_w _ _ _ _ uc hA) (Nat.le_refl 1) (by omega) (by omega) (by omega)) ?_
        rintro v3 U3 D hU3 ⟨x3, rfl, h3, rfl, ⟨r3, R3, p3, d3, hred⟩, s3⟩
        rw [List.nil_append]
        repeat (first | refine run_S ?_ | refine w_box (fun _ => ?_) | refine w_al (fun _ => ?_))
        refine sl_call rfl rfl rfl rfl rfl rfl (fun _ => ct_setm (m9Transpose_ct (kept_m kept_w _ _ _ _ uc hA) (by omega) (by omega) (by omega))) ?_
        rintro vh4 Uh4 D hU ⟨h4, rfl⟩
        rw [List.nil_append]
        repeat (first | refine run_S ?_ | refine w_box (fun _ => ?_) | refine w_al (fun _ => ?_))
        refine sl_call rfl rfl rfl rfl rfl rfl (fun _ => mDet_ct (b := 1) (h4.w fun i j hi hj => sA j i hj hi) (Nat.le_refl 1) (by omega) (by omega) (by omega)) ?_
        rintro v5 U5 D hU5 ⟨x5, rfl, h5, rfl, -, s5⟩
        rw [List.nil_append]
        rw [La.det_tr] at h5 s5
        repeat (first | refine run_S ?_ | refine w_box (fun _ => ?_) | refine w_al (fun _ => ?_))
        refine st_draw [0, 1, 2, 3, 4, 5, 6, 7, 8, 9, 10, 11, 12, 13, 14, 15, 16, 17, 18, 19] sym (by kernel_rfl) ?_
        repeat (first | refine run_S ?_ | refine w_box (fun _ => ?_) | refine w_al (fun _ => ?_))
        refine sl_gdec rfl rfl (fun h => absurd rfl h) (fun _ => ?_)
        repeat (first | refine run_S ?_ | refine w_box (fun _ => ?_) | refine w_al (fun _ => ?_))
        refine sl_gdec rfl rfl (fun h => absurd rfl h) (fun _ => ?_)
        repeat (first | refine run_S ?_ | refine w_box (fun _ => ?_) | refine w_al (fun _ => ?_))
        have hnn : n * n ≤ 25 := Nat.le_trans (Nat.mul_le_mul (by omega : n ≤ 5) (by omega : n ≤ 5)) (by decide)
        refine sl_call rfl rfl rfl rfl rfl rfl (fun _ => ct_setg (m9Rows_co (kept_m kept_w _ _ _ _ uc hA) (by omega) (by omega) (by omega) (by omega))) ?_
        rintro vh6 Uh6 D hU ⟨h6, rfl⟩
        rw [List.nil_append]
        repeat (first | refine run_S ?_ | refine w_box (fun _ => ?_) | refine w_al (fun _ => ?_))
        have hd5 : dsz 1 n ≤ 1000000000 := by
          have : ∀ k, k ≤ 5 → dsz 1 k ≤ 1000000000 := by
            intro k hk
            rcases show k = 0 ∨ k = 1 ∨ k = 2 ∨ k = 3 ∨ k = 4 ∨ k = 5 by omega with rfl | rfl | rfl | rfl | rfl | rfl <;> decide
          exact this n (by omega)
        refine sl_call rfl rfl rfl rfl rfl rfl (fun _ => m9Det_ct (k := 1) n (h6.ls kept_r uc) sA (Nat.le_refl 1) (by decide) hd5 (by omega)) ?_
        rintro v7 U7 D hU7 ⟨⟨x7, rfl, h7⟩, rfl⟩
        rw [List.nil_append]
        repeat (first | refine run_S ?_ | refine w_box (fun _ => ?_) | refine w_al (fun _ => ?_))
        refine sl_call rfl rfl rfl rfl rfl rfl (fun _ => rqSame_ct (h3.up uc sb) (h7.up uc sb)) ?_
        rintro v U' D hU ⟨rfl, rfl, rfl⟩
        repeat (first | refine run_S ?_ | refine w_box (fun _ => ?_) | refine w_al (fun _ => ?_))
        rw [decide_eq_true rfl]
        repeat (first | refine run_S ?_ | refine w_box (fun _ => ?_) | refine w_al (fun _ => ?_))
        refine sl_call rfl rfl rfl rfl rfl rfl (fun _ => rqSame_ct (h5.up uc sb) (h3.up uc sb)) ?_
        rintro v U' D hU ⟨rfl, rfl, rfl⟩
        repeat (first | refine run_S ?_ | refine w_box (fun _ => ?_) | refine w_al (fun _ => ?_))
        rw [decide_eq_true rfl]
        repeat (first | refine run_S ?_ | refine w_box (fun _ => ?_) | refine w_al (fun _ => ?_))
        refine sl_gdec rfl rfl (fun h => ?_) (fun hRn => ?_)
        · repeat (first | refine run_S ?_ | refine w_box (fun _ => ?_) | refine w_al (fun _ => ?_))
          exact sk_ret [] sym rfl (.cons (.tmp rfl) .nil) uc sb (.inl rfl) rfl
        repeat (first | refine run_S ?_ | refine w_box (fun _ => ?_) | refine w_al (fun _ => ?_))
        refine st_ne rfl (fun h => ?_) (fun hCn => ?_)
        · repeat (first | refine run_S ?_ | refine w_box (fun _ => ?_) | refine w_al (fun _ => ?_))
          exact sk_ret [] sym rfl (.cons (.tmp rfl) .nil) uc sb (.inl rfl) rfl
        obtain rfl : R = n := by omega
        obtain rfl : C = R := by omega
        have sB : ∀ i j, i < C → j < C → Szq (B i j) 1 := fun i j hi hj => hB.sz (Nat.le_refl 1) hi hj
        have g2 := gro_small (k := 16) (n := C) (by omega) (by decide)
        repeat (first | refine run_S ?_ | refine w_box (fun _ => ?_) | refine w_al (fun _ => ?_))
        refine sl_call rfl rfl rfl rfl rfl rfl (fun _ => mDet_ct (kept_m kept_w _ _ _ _ uc hB) (Nat.le_refl 1) (by omega) (by omega) (by omega)) ?_
        rintro v8 U8 D hU8 ⟨x8, rfl, h8, rfl, -, s8⟩
        rw [List.nil_append]
        repeat (first | refine run_S ?_ | refine w_box (fun _ => ?_) | refine w_al (fun _ => ?_))
        refine sl_call rfl rfl rfl rfl rfl rfl (fun _ => m9Mul_ct (b := 1) (kept_m kept_w _ _ _ _ uc hA) (kept_m kept_w _ _ _ _ uc hB) (Nat.le_refl 1) (by omega) (by omega) (by omega) (by omega) (by omega)) ?_
        rintro vh9 Uh9 D hU ⟨h9, rfl⟩
        rw [List.nil_append]
        repeat (first | refine run_S ?_ | refine w_box (fun _ => ?_) | refine w_al (fun _ => ?_))
        have sM : ∀ i j, i < C → j < C → Szq (La.mm C A B i j) 16 := fun i j hi hj => (szq_mm (fun k hk => sA i k hi hk) (fun k hk => sB k j hk hj)).mono (by omega)
        refine sl_call rfl rfl rfl rfl rfl rfl (fun _ => mDet_ct (b := 16) (h9.w sM) (by decide) (by omega) (by omega) (by omega)) ?_
        rintro v10 U10 D hU10 ⟨x10, rfl, h10, rfl, -, s10⟩
        rw [List.nil_append]
        repeat (first | refine run_S ?_ | refine w_box (fun _ => ?_) | refine w_al (fun _ => ?_))
        refine st_draw [0, 1, 2, 3, 4, 5, 6, 7, 8, 9, 10, 11, 12, 13] sym (by kernel_rfl) ?_
        repeat (first | refine run_S ?_ | refine w_box (fun _ => ?_) | refine w_al (fun _ => ?_))
        refine sl_gdec rfl rfl (fun _ => ?_) (fun h => absurd rfl h)
        repeat (first | refine run_S ?_ | refine w_box (fun _ => ?_) | refine w_al (fun _ => ?_))
        refine sl_gdec rfl rfl (fun _ => ?_) (fun h => absurd rfl h)
        repeat (first | refine run_S ?_ | refine w_box (fun _ => ?_) | refine w_al (fun _ => ?_))
        refine sl_call rfl rfl rfl rfl rfl rfl (fun _ => rqMul_ct (h3.rep.up uc sb) (h3.le s3 (by omega)) (h8.rep.up uc sb) (h8.le s8 (by omega))) ?_
        rintro v Uh11 D hU ⟨xh11, rfl, h11, rfl⟩
        repeat (first | refine run_S ?_ | refine w_box (fun _ => ?_) | refine w_al (fun _ => ?_))
        refine sl_call rfl rfl rfl rfl rfl rfl (fun _ => rqSame_ct (h10.up uc sb) (h11.up uc sb)) ?_
        rintro v U' D hU ⟨rfl, rfl, rfl⟩
        repeat (first | refine run_S ?_ | refine w_box (fun _ => ?_) | refine w_al (fun _ => ?_))
        rw [decide_eq_true (hred.mul B)]
        repeat (first | refine run_S ?_ | refine w_box (fun _ => ?_) | refine w_al (fun _ => ?_))
        exact sk_ret [] sym rfl (.cons (.tmp rfl) .nil) uc sb (.inl rfl) rfl
    · rw [decide_eq_false hVb]
      repeat (first | refine run_S ?_ | refine w_box (fun _ => ?_) | refine w_al (fun _ => ?_))
      exact sk_ret [] sym rfl (.cons (.tmp rfl) .nil) uc sb (.inl rfl) rfl
  · rw [decide_eq_false hVa]
    repeat (first | refine run_S ?_ | refine w_box (fun _ => ?_) | refine w_al (fun _ => ?_))
    exact sk_ret [] sym rfl (.cons (.tmp rfl) .nil) uc sb (.inl rfl) rfl

end Go.Proofs.YtcfgogamamdipaaGreat
