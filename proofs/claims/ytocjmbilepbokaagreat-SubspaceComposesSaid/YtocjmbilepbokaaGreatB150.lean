/- Laws of layer 10: products of maps on invariant subspaces. -/
import Derived.Test.YtocjmbilepbokaaGreatB149
namespace Go.Proofs.YtocjmbilepbokaaGreat
open Go.Hp
variable {G : World} {U U' : UH} {M M' : MH}

theorem quo_cols {r m : Nat} {B T : Nat → Nat → Rat} {p f f' : Nat → Nat} (e : ∀ k, k < m → f k = f' k) (i j : Nat) (hi : i < m) (hj : j < m) : La.quo r B T p f' i j = La.quo r B T p f i j := by
  unfold La.quo; rw [e i hi, e j hj]

set_option maxHeartbeats 2000000 in
set_option maxRecDepth 100000 in
theorem SubspaceComposes_ct {vs vt vu : Value} {ds rs cs rt ct ru cu : Int} {ns nt nu : Nat} {fs ft fu : Nat → Rat} (hs : RawS U vs ds rs cs ns fs) (ht : Raw U vt rt ct nt ft) (hu : Raw U vu ru cu nu fu) :
    Ct Tryz.prog 10 [vs, vt, vu] G U M fun v _ _ => v = .bool true := by
  have hs0 := hs
  have ht0 := ht
  have hu0 := hu
  obtain ⟨-, _, rfl, -, -, hns, _, he, pa, cca, asa, rfl, -⟩ := hs
  simp only [Value.agg.injEq, Array.mk.injEq, List.cons.injEq, and_true, true_and] at he
  subst he
  obtain ⟨-, -, hnt, _, rfl, pt, cct, ast, rfl, -⟩ := ht
  obtain ⟨-, -, hnu, _, rfl, pu, ccu, asu, rfl, -⟩ := hu
  refine ct_of_st Tryz.func10 rfl rfl rfl rfl ?_
  repeat (first | refine run_S ?_ | refine w_box (fun _ => ?_) | refine w_al (fun _ => ?_))
  rename_i b3 b4 b5
  refine sl_call rfl rfl rfl rfl rfl rfl (fun _ => awake10_ct) ?_
  rintro v1 U1 D1 hU1 ⟨rfl, -, rfl⟩
  try rw [List.nil_append]
  repeat (first | refine run_S ?_ | refine w_box (fun _ => ?_) | refine w_al (fun _ => ?_))
  refine sl_bslice (vs := [.agg #[.int .i64 ds, .int .i64 rs, .int .i64 cs, .slice pa ns cca]]) sym rfl rfl rfl rfl rfl rfl (all_size rfl) rfl rfl rfl rfl rfl rfl (fun bl => ?_)
  have hrl := (RowO.mk (e := TS) (s := 4) (b := bl) (n := 1) (vs := [.agg #[.int .i64 ds, .int .i64 rs, .int .i64 cs, .slice pa ns cca]]) rfl (all_size rfl) (by omega)).at (U := U1) (M := (bl, .arr [.agg #[.int .i64 ds, .int .i64 rs, .int .i64 cs, .slice pa ns cca]], TS) :: (b5, .var (.agg #[.int .i64 ru, .int .i64 cu, .slice pu nu ccu]), TM) :: (b4, .var (.agg #[.int .i64 rt, .int .i64 ct, .slice pt nt cct]), TM) :: (b3, .var (.agg #[.int .i64 ds, .int .i64 rs, .int .i64 cs, .slice pa ns cca]), TS) :: M) sb
  refine sl_call rfl rfl rfl rfl rfl rfl (fun _ => fit_ct (U := U1) (d := fun _ => ds) (r := fun _ => rs) (c := fun _ => cs) (n := fun _ => ns) (f := fun _ => fs) (hrl.up uc sb) (one_rows (P := fun _ v => RawS U1 v ds rs cs ns fs) (hs0.up uc)) (by decide)) ?_
  rintro v2 U2 D2 hU2 ⟨rfl, b, rfl, hl⟩
  try rw [List.nil_append]
  cases b
  · repeat (first | refine run_S ?_ | refine w_box (fun _ => ?_) | refine w_al (fun _ => ?_))
    exact sk_ret [] sym rfl (.cons (.tmp rfl) .nil) uc sb (.inl rfl) rfl
  obtain ⟨ls, hvs, -, -⟩ := hl rfl 0 _ rfl
  clear hl hrl hs0
  repeat (first | refine run_S ?_ | refine w_box (fun _ => ?_) | refine w_al (fun _ => ?_))
  refine sl_bslice (vs := [.agg #[.int .i64 rt, .int .i64 ct, .slice pt nt cct], .agg #[.int .i64 ru, .int .i64 cu, .slice pu nu ccu]]) sym rfl rfl rfl rfl rfl rfl (all_size rfl) rfl rfl rfl rfl rfl rfl (fun bt => ?_)
  have hrl := (RowO.mk (e := TM) (s := 3) (b := bt) (n := 2) (vs := [.agg #[.int .i64 rt, .int .i64 ct, .slice pt nt cct], .agg #[.int .i64 ru, .int .i64 cu, .slice pu nu ccu]]) rfl (all_size rfl) (by omega)).at (U := U2) (M := (bt, .arr [.agg #[.int .i64 rt, .int .i64 ct, .slice pt nt cct], .agg #[.int .i64 ru, .int .i64 cu, .slice pu nu ccu]], TM) :: (bl, .arr [.agg #[.int .i64 ds, .int .i64 rs, .int .i64 cs, .slice pa ns cca]], TS) :: (b5, .var (.agg #[.int .i64 ru, .int .i64 cu, .slice pu nu ccu]), TM) :: (b4, .var (.agg #[.int .i64 rt, .int .i64 ct, .slice pt nt cct]), TM) :: (b3, .var (.agg #[.int .i64 ds, .int .i64 rs, .int .i64 cs, .slice pa ns cca]), TS) :: M) sb
  refine sl_call rfl rfl rfl rfl rfl rfl (fun _ => light10_ct (U := U2) (r := fun k => if k = 0 then rt else ru) (c := fun k => if k = 0 then ct else cu) (n := fun k => if k = 0 then nt else nu) (f := fun k => if k = 0 then ft else fu) (hrl.up uc sb) (two_rows (P := fun k v => Raw U2 v (if k = 0 then rt else ru) (if k = 0 then ct else cu) (if k = 0 then nt else nu) (if k = 0 then ft else fu)) (ht0.up uc) (hu0.up uc)) (by decide)) ?_
  rintro v3 U3 D3 hU3 ⟨b, rfl, hl, rfl, rfl⟩
  try rw [List.nil_append]
  cases b
  · repeat (first | refine run_S ?_ | refine w_box (fun _ => ?_) | refine w_al (fun _ => ?_))
    exact sk_ret [] sym rfl (.cons (.tmp rfl) .nil) uc sb (.inl rfl) rfl
  have lt : Lit 6 U2 _ rt ct nt ft := hl rfl 0 _ rfl
  have lu : Lit 6 U2 _ ru cu nu fu := hl rfl 1 _ rfl
  clear hl hrl ht0 hu0
  repeat (first | refine run_S ?_ | refine w_box (fun _ => ?_) | refine w_al (fun _ => ?_))
  refine sl_call rfl rfl rfl rfl rfl rfl (fun _ => m9Valid_ct (r := rt) (c := ct) (n := nt) (p := pt) (cc := cct) (by omega)) ?_
  rintro v U' D hU ⟨rfl, rfl, rfl⟩
  repeat (first | refine run_S ?_ | refine w_box (fun _ => ?_) | refine w_al (fun _ => ?_))
  by_cases hvt : Vld rt ct nt
  case neg =>
    rw [decide_eq_false hvt]
    repeat (first | refine run_S ?_ | refine w_box (fun _ => ?_) | refine w_al (fun _ => ?_))
    exact sk_ret [] sym rfl (.cons (.tmp rfl) .nil) uc sb (.inl rfl) rfl
  rw [decide_eq_true hvt]
  repeat (first | refine run_S ?_ | refine w_box (fun _ => ?_) | refine w_al (fun _ => ?_))
  refine sl_call rfl rfl rfl rfl rfl rfl (fun _ => m9Valid_ct (r := ru) (c := cu) (n := nu) (p := pu) (cc := ccu) (by omega)) ?_
  rintro v U' D hU ⟨rfl, rfl, rfl⟩
  repeat (first | refine run_S ?_ | refine w_box (fun _ => ?_) | refine w_al (fun _ => ?_))
  by_cases hvu : Vld ru cu nu
  case neg =>
    rw [decide_eq_false hvu]
    repeat (first | refine run_S ?_ | refine w_box (fun _ => ?_) | refine w_al (fun _ => ?_))
    exact sk_ret [] sym rfl (.cons (.tmp rfl) .nil) uc sb (.inl rfl) rfl
  rw [decide_eq_true hvu]
  repeat (first | refine run_S ?_ | refine w_box (fun _ => ?_) | refine w_al (fun _ => ?_))
  refine sl_gdec rfl rfl (fun h => ?_) (fun h1 => ?_)
  · repeat (first | refine run_S ?_ | refine w_box (fun _ => ?_) | refine w_al (fun _ => ?_))
    exact sk_ret [] sym rfl (.cons (.tmp rfl) .nil) uc sb (.inl rfl) rfl
  repeat (first | refine run_S ?_ | refine w_box (fun _ => ?_) | refine w_al (fun _ => ?_))
  refine sl_gdec rfl rfl (fun h => ?_) (fun h2 => ?_)
  · repeat (first | refine run_S ?_ | refine w_box (fun _ => ?_) | refine w_al (fun _ => ?_))
    exact sk_ret [] sym rfl (.cons (.tmp rfl) .nil) uc sb (.inl rfl) rfl
  repeat (first | refine run_S ?_ | refine w_box (fun _ => ?_) | refine w_al (fun _ => ?_))
  refine sl_gdec rfl rfl (fun h => ?_) (fun h3 => ?_)
  · repeat (first | refine run_S ?_ | refine w_box (fun _ => ?_) | refine w_al (fun _ => ?_))
    exact sk_ret [] sym rfl (.cons (.tmp rfl) .nil) uc sb (.inl rfl) rfl
  repeat (first | refine run_S ?_ | refine w_box (fun _ => ?_) | refine w_al (fun _ => ?_))
  refine st_ne rfl (fun h => ?_) (fun h4 => ?_)
  · repeat (first | refine run_S ?_ | refine w_box (fun _ => ?_) | refine w_al (fun _ => ?_))
    exact sk_ret [] sym rfl (.cons (.tmp rfl) .nil) uc sb (.inl rfl) rfl
  obtain ⟨Rs, n, qs, rfl, rfl, rfl, rfl, hRs, hn, sv, eV, wS⟩ := hvs.get' ls
  obtain ⟨Rt, Ct1, rfl, rfl, hRt, hCt, st⟩ := lt.vm hvt
  obtain ⟨Ru, Cu1, rfl, rfl, hRu, hCu, su⟩ := lu.vm hvu
  obtain rfl : n = Rt := by omega
  obtain rfl : n = Ct1 := by omega
  obtain rfl : n = Ru := by omega
  obtain rfl : n = Cu1 := by omega
  generalize (fun i j => fs (i * n + j)) = S at sv eV wS
  generalize (fun i j => ft (i * n + j)) = T at st
  generalize (fun i j => fu (i * n + j)) = W at su
  clear h1 h2 h3 h4 hvs ls lt lu
  have sS : ∀ i j, i < Rs → j < n → Szq (S i j) 1 := fun i j hi hj => sv.sz (Nat.le_refl 1) hi hj
  have sT : ∀ i j, i < n → j < n → Szq (T i j) 1 := fun i j hi hj => st.sz (Nat.le_refl 1) hi hj
  have sW : ∀ i j, i < n → j < n → Szq (W i j) 1 := fun i j hi hj => su.sz (Nat.le_refl 1) hi hj
  have sTW := mm_szq (r := n) (m := n) (B := T) (T := W) sT sW hn
  have hrr : Rs * Rs ≤ 6 * 6 := Nat.mul_le_mul hRs hRs
  repeat (first | refine run_S ?_ | refine w_box (fun _ => ?_) | refine w_al (fun _ => ?_))
  refine sl_call rfl rfl rfl rfl rfl rfl (fun _ => sRestrict_ok (kept_s kept_w _ _ _ _ uc sv) eV (kept_m kept_w _ _ _ _ uc st) (by decide) (by decide) hn) ?_
  rintro v5 U5 D5 hU5 ⟨va, e1, rfl, he1, hi1, hy1, hno1, rfl⟩
  try rw [List.nil_append]
  by_cases hIT : La.Inv Rs n S T
  case neg =>
    obtain rfl := he1.resolve_left fun h => hIT (hi1.1 h)
    obtain rfl := hno1 rfl
    repeat (first | refine run_S ?_ | refine w_box (fun _ => ?_) | refine w_al (fun _ => ?_))
    refine sl_call rfl rfl rfl rfl rfl rfl (fun _ => sRestrict_ok (kept_s kept_w _ _ _ _ uc sv) eV (kept_m kept_w _ _ _ _ uc su) (by decide) (by decide) hn) ?_
    rintro v6 U6 D6 hU6 ⟨vb, e2, rfl, he2, hi2, hy2, hno2, rfl⟩
    try rw [List.nil_append]
    have hform : ∃ (r c : Int) (p : Option Addr) (k cc : Nat), vb = .agg #[.int .i64 r, .int .i64 c, .slice p k cc] := by
      rcases he2 with rfl | rfl
      · obtain ⟨_, rfl, p, c, s, rfl, -⟩ := hy2 rfl
        exact ⟨_, _, _, _, _, rfl⟩
      · exact ⟨_, _, _, _, _, hno2 rfl⟩
    obtain ⟨r, c, p, k, cc, rfl⟩ := hform
    repeat (first | refine run_S ?_ | refine w_box (fun _ => ?_) | refine w_al (fun _ => ?_))
    refine sl_gdec rfl rfl (fun _ => ?_) (fun h => absurd (by decide) h)
    repeat (first | refine run_S ?_ | refine w_box (fun _ => ?_) | refine w_al (fun _ => ?_))
    refine sl_gdec rfl rfl (fun _ => ?_) (fun h => absurd (by decide) h)
    repeat (first | refine run_S ?_ | refine w_box (fun _ => ?_) | refine w_al (fun _ => ?_))
    rw [show dec ((13 : Int) = 13) = true from dec_true rfl]
    repeat (first | refine run_S ?_ | refine w_box (fun _ => ?_) | refine w_al (fun _ => ?_))
    exact sk_ret [] sym rfl (.cons (.tmp rfl) .nil) uc sb (.inl rfl) rfl
  obtain rfl := hi1.2 hIT
  have hA := hy1 rfl
  clear hy1 hno1
  obtain ⟨_, rfl, p5, c5, s5, rfl, -⟩ := id hA
  repeat (first | refine run_S ?_ | refine w_box (fun _ => ?_) | refine w_al (fun _ => ?_))
  refine sl_call rfl rfl rfl rfl rfl rfl (fun _ => sRestrict_ok (kept_s kept_w _ _ _ _ uc sv) eV (kept_m kept_w _ _ _ _ uc su) (by decide) (by decide) hn) ?_
  rintro v6 U6 D6 hU6 ⟨vb, e2, rfl, he2, hi2, hy2, hno2, rfl⟩
  try rw [List.nil_append]
  by_cases hIW : La.Inv Rs n S W
  case neg =>
    obtain rfl := he2.resolve_left fun h => hIW (hi2.1 h)
    obtain rfl := hno2 rfl
    repeat (first | refine run_S ?_ | refine w_box (fun _ => ?_) | refine w_al (fun _ => ?_))
    refine sl_gdec rfl rfl (fun h => absurd rfl h) (fun _ => ?_)
    repeat (first | refine run_S ?_ | refine w_box (fun _ => ?_) | refine w_al (fun _ => ?_))
    refine st_ne rfl (fun _ => ?_) (fun h => absurd h (by decide))
    repeat (first | refine run_S ?_ | refine w_box (fun _ => ?_) | refine w_al (fun _ => ?_))
    refine sl_gdec rfl rfl (fun h => absurd rfl h) (fun _ => ?_)
    repeat (first | refine run_S ?_ | refine w_box (fun _ => ?_) | refine w_al (fun _ => ?_))
    rw [show dec ((13 : Int) = 13) = true from dec_true rfl]
    exact sk_ret [] sym rfl (.cons (.tmp rfl) .nil) uc sb (.inl rfl) rfl
  obtain rfl := hi2.2 hIW
  have hB := hy2 rfl
  clear hy2 hno2
  obtain ⟨_, rfl, p6, c6, s6, rfl, -⟩ := id hB
  repeat (first | refine run_S ?_ | refine w_box (fun _ => ?_) | refine w_al (fun _ => ?_))
  refine sl_gdec rfl rfl (fun h => absurd rfl h) (fun _ => ?_)
  repeat (first | refine run_S ?_ | refine w_box (fun _ => ?_) | refine w_al (fun _ => ?_))
  refine st_ne rfl (fun h => absurd rfl h) (fun _ => ?_)
  have hIM := La.inv_mm hIT hIW
  repeat (first | refine run_S ?_ | refine w_box (fun _ => ?_) | refine w_al (fun _ => ?_))
  refine st_draw [0, 1, 2, 3, 4, 5, 6, 7, 8, 9, 10] sym (by kernel_rfl) ?_
  repeat (first | refine run_S ?_ | refine w_box (fun _ => ?_) | refine w_al (fun _ => ?_))
  refine sl_call rfl rfl rfl rfl rfl rfl (fun _ => m9Mul_ct (b := 1) (kept_m kept_w _ _ _ _ uc st) (kept_m kept_w _ _ _ _ uc su) (by decide) (by omega) (by decide) (by omega) (by omega) (by omega)) ?_
  rintro v7 U7 D7 hU7 ⟨h7, rfl⟩
  try rw [List.nil_append]
  have h7w := h7.w sTW
  obtain ⟨_, rfl, p7, c7, s7, rfl, -⟩ := id h7
  repeat (first | refine run_S ?_ | refine w_box (fun _ => ?_) | refine w_al (fun _ => ?_))
  refine sl_call rfl rfl rfl rfl rfl rfl (fun _ => sRestrict_ok (b := 19) (kept_s kept_w _ _ _ _ uc (sv.mono (by decide))) eV (kept_m kept_w _ _ _ _ uc h7w) (by decide) (by decide) hn) ?_
  rintro v8 U8 D8 hU8 ⟨vc, e3, rfl, -, hi3, hy3, -, rfl⟩
  try rw [List.nil_append]
  obtain rfl := hi3.2 hIM
  have hC := hy3 rfl
  clear hy3
  obtain ⟨_, rfl, p8, c8, s8, rfl, -⟩ := id hC
  repeat (first | refine run_S ?_ | refine w_box (fun _ => ?_) | refine w_al (fun _ => ?_))
  refine sl_call rfl rfl rfl rfl rfl rfl (fun _ => sQuotient_ok (kept_s kept_w _ _ _ _ uc sv) eV (kept_m kept_w _ _ _ _ uc st) (by decide) (by decide) hn) ?_
  rintro v9 U9 D9 hU9 ⟨vx, e4, rfl, -, hi4, hy4, -, rfl⟩
  try rw [List.nil_append]
  obtain rfl := hi4.2 hIT
  obtain ⟨m, f, cC, hm, hX⟩ := hy4 rfl
  clear hy4
  have hmm : m * m ≤ 6 * 6 := Nat.mul_le_mul (by omega) (by omega)
  obtain ⟨_, rfl, p9, c9, s9, rfl, -⟩ := id hX
  repeat (first | refine run_S ?_ | refine w_box (fun _ => ?_) | refine w_al (fun _ => ?_))
  refine sl_call rfl rfl rfl rfl rfl rfl (fun _ => sQuotient_ok (kept_s kept_w _ _ _ _ uc sv) eV (kept_m kept_w _ _ _ _ uc su) (by decide) (by decide) hn) ?_
  rintro v10 U10 D10 hU10 ⟨vy, e5, rfl, -, hi5, hy5, -, rfl⟩
  try rw [List.nil_append]
  obtain rfl := hi5.2 hIW
  obtain ⟨m2, f2, cC2, -, hY⟩ := hy5 rfl
  clear hy5
  obtain ⟨rfl, hff⟩ := cC.unique cC2
  replace hY := hY.congr (quo_cols hff)
  obtain ⟨_, rfl, p10, c10, s10, rfl, -⟩ := id hY
  repeat (first | refine run_S ?_ | refine w_box (fun _ => ?_) | refine w_al (fun _ => ?_))
  refine st_draw [0, 1, 2, 3, 4, 5, 6, 7, 8, 9, 10] sym (by kernel_rfl) ?_
  repeat (first | refine run_S ?_ | refine w_box (fun _ => ?_) | refine w_al (fun _ => ?_))
  refine sl_call rfl rfl rfl rfl rfl rfl (fun _ => m9Mul_ct (b := 1) (kept_m kept_w _ _ _ _ uc st) (kept_m kept_w _ _ _ _ uc su) (by decide) (by omega) (by decide) (by omega) (by omega) (by omega)) ?_
  rintro v11 U11 D11 hU11 ⟨h11, rfl⟩
  try rw [List.nil_append]
  have h11w := h11.w sTW
  obtain ⟨_, rfl, p11, c11, s11, rfl, -⟩ := id h11
  repeat (first | refine run_S ?_ | refine w_box (fun _ => ?_) | refine w_al (fun _ => ?_))
  refine sl_call rfl rfl rfl rfl rfl rfl (fun _ => sQuotient_ok (b := 19) (kept_s kept_w _ _ _ _ uc (sv.mono (by decide))) eV (kept_m kept_w _ _ _ _ uc h11w) (by decide) (by decide) hn) ?_
  rintro v12 U12 D12 hU12 ⟨vz, e6, rfl, -, hi6, hy6, -, rfl⟩
  try rw [List.nil_append]
  obtain rfl := hi6.2 hIM
  obtain ⟨m3, f3, cC3, -, hZ⟩ := hy6 rfl
  clear hy6
  obtain ⟨rfl, hff3⟩ := cC.unique cC3
  replace hZ := hZ.congr (quo_cols hff3)
  obtain ⟨_, rfl, p12, c12, s12, rfl, -⟩ := id hZ
  have sM := fun (T : Nat → Nat → Rat) (sT : ∀ i j, i < n → j < n → Szq (T i j) 1) => mm_szq (r := Rs) (m := n) (B := S) (T := T) sS sT hn
  have sR : ∀ (T : Nat → Nat → Rat), (∀ i j, i < n → j < n → Szq (T i j) 1) → ∀ i j, i < Rs → j < Rs → Szq (La.rst n S T qs i j) 22 := fun T sT i j hi hj => (sM T sT i _ hi (eV.lt j hj)).mono (by decide)
  have sQ : ∀ (T : Nat → Nat → Rat), (∀ i j, i < n → j < n → Szq (T i j) 1) → ∀ i j, i < m → j < m → Szq (La.quo Rs S T qs f i j) 22 := fun T sT i j hi hj => (szq_prj (b := 1) (bv := 1) hRs eV.lt sS (fun j hj => sT _ j (cC.lt i hi) hj) (cC.lt j hj)).mono (by decide)
  repeat (first | refine run_S ?_ | refine w_box (fun _ => ?_) | refine w_al (fun _ => ?_))
  refine st_draw [0, 1, 2, 3, 4, 5, 6, 7, 8, 9, 10, 11, 12, 13, 14, 15, 16, 17, 18, 19, 20] sym (by kernel_rfl) ?_
  repeat (first | refine run_S ?_ | refine w_box (fun _ => ?_) | refine w_al (fun _ => ?_))
  refine sl_gdec rfl rfl (fun _ => ?_) (fun h => absurd rfl h)
  repeat (first | refine run_S ?_ | refine w_box (fun _ => ?_) | refine w_al (fun _ => ?_))
  refine sl_gdec rfl rfl (fun _ => ?_) (fun h => absurd rfl h)
  repeat (first | refine run_S ?_ | refine w_box (fun _ => ?_) | refine w_al (fun _ => ?_))
  refine sl_call rfl rfl rfl rfl rfl rfl (fun _ => m9Mul_ct (b := 22) ((kept_m kept_q _ _ _ _ uc hA).w (sR T sT)) ((kept_m kept_q _ _ _ _ uc hB).w (sR W sW)) (by decide) (by omega) (by decide) (by omega) (by omega) (by omega)) ?_
  rintro v13 U13 D13 hU13 ⟨h13, rfl⟩
  try rw [List.nil_append]
  refine sl_call rfl rfl rfl rfl rfl rfl (fun _ => bSameMatrix_ct (kept_m kept_q _ _ _ _ uc hC) (kept_m kept_q _ _ _ _ uc h13) (by omega) (by omega)) ?_
  rintro v14 U14 D14 hU14 ⟨b, rfl, hb, rfl, rfl⟩
  try rw [List.nil_append]
  obtain rfl := hb.2 ⟨rfl, rfl, fun i j hi hj => La.rst_comp eV hIT hi⟩
  repeat (first | refine run_S ?_ | refine w_box (fun _ => ?_) | refine w_al (fun _ => ?_))
  refine sl_call rfl rfl rfl rfl rfl rfl (fun _ => m9Mul_ct (b := 22) ((kept_m kept_q _ _ _ _ uc hX).w (sQ T sT)) ((kept_m kept_q _ _ _ _ uc hY).w (sQ W sW)) (by decide) (by omega) (by decide) (by omega) (by omega) (by omega)) ?_
  rintro v15 U15 D15 hU15 ⟨h15, rfl⟩
  try rw [List.nil_append]
  refine sl_call rfl rfl rfl rfl rfl rfl (fun _ => bSameMatrix_ct (kept_m kept_q _ _ _ _ uc hZ) (kept_m kept_q _ _ _ _ uc h15) (by omega) (by omega)) ?_
  rintro v16 U16 D16 hU16 ⟨b, rfl, hb, rfl, rfl⟩
  try rw [List.nil_append]
  obtain rfl := hb.2 ⟨rfl, rfl, fun i j hi hj => La.quo_comp eV cC hIW hj⟩
  repeat (first | refine run_S ?_ | refine w_box (fun _ => ?_) | refine w_al (fun _ => ?_))
  exact sk_ret [] sym rfl (.cons (.tmp rfl) .nil) uc sb (.inl rfl) rfl

end Go.Proofs.YtocjmbilepbokaaGreat
