/- Laws of layer 10: maps on invariant subspaces. -/
import Derived.Test.YtocjmbilepbokaaGreatB148
import Derived.Test.YtocjmbilepbokaaGreatM27
namespace Go.Proofs.YtocjmbilepbokaaGreat
open Go.Hp
variable {G : World} {U U' : UH} {M M' : MH}

set_option maxHeartbeats 2000000 in
set_option maxRecDepth 100000 in
theorem SubspaceRestricts_ct {vs vt : Value} {ds rs cs rt ct : Int} {ns nt : Nat} {fs ft : Nat → Rat} (hs : RawS U vs ds rs cs ns fs) (ht : Raw U vt rt ct nt ft) :
    Ct Tryz.prog 9 [vs, vt] G U M fun v _ _ => v = .bool true := by
  have hs0 := hs
  have ht0 := ht
  obtain ⟨-, _, rfl, -, -, hns, _, he, pa, cca, asa, rfl, -⟩ := hs
  simp only [Value.agg.injEq, Array.mk.injEq, List.cons.injEq, and_true, true_and] at he
  subst he
  obtain ⟨-, -, hnt, _, rfl, pt, cct, ast, rfl, -⟩ := ht
  refine ct_of_st Tryz.func9 rfl rfl rfl rfl ?_
  repeat (first | refine run_S ?_ | refine w_box (fun _ => ?_) | refine w_al (fun _ => ?_))
  rename_i b2 b3
  refine sl_call rfl rfl rfl rfl rfl rfl (fun _ => awake10_ct) ?_
  rintro v1 U1 D1 hU1 ⟨rfl, -, rfl⟩
  try rw [List.nil_append]
  repeat (first | refine run_S ?_ | refine w_box (fun _ => ?_) | refine w_al (fun _ => ?_))
  refine sl_bslice (vs := [.agg #[.int .i64 ds, .int .i64 rs, .int .i64 cs, .slice pa ns cca]]) sym rfl rfl rfl rfl rfl rfl (all_size rfl) rfl rfl rfl rfl rfl rfl (fun bl => ?_)
  have hrl := (RowO.mk (e := TS) (s := 4) (b := bl) (n := 1) (vs := [.agg #[.int .i64 ds, .int .i64 rs, .int .i64 cs, .slice pa ns cca]]) rfl (all_size rfl) (by omega)).at (U := U1) (M := (bl, .arr [.agg #[.int .i64 ds, .int .i64 rs, .int .i64 cs, .slice pa ns cca]], TS) :: (b3, .var (.agg #[.int .i64 rt, .int .i64 ct, .slice pt nt cct]), TM) :: (b2, .var (.agg #[.int .i64 ds, .int .i64 rs, .int .i64 cs, .slice pa ns cca]), TS) :: M) sb
  refine sl_call rfl rfl rfl rfl rfl rfl (fun _ => fit_ct (U := U1) (d := fun _ => ds) (r := fun _ => rs) (c := fun _ => cs) (n := fun _ => ns) (f := fun _ => fs) (hrl.up uc sb) (one_rows (P := fun _ v => RawS U1 v ds rs cs ns fs) (hs0.up uc)) (by decide)) ?_
  rintro v2 U2 D2 hU2 ⟨rfl, b, rfl, hl⟩
  try rw [List.nil_append]
  cases b
  · repeat (first | refine run_S ?_ | refine w_box (fun _ => ?_) | refine w_al (fun _ => ?_))
    exact sk_ret [] sym rfl (.cons (.tmp rfl) .nil) uc sb (.inl rfl) rfl
  obtain ⟨ls, hvs, -, -⟩ := hl rfl 0 _ rfl
  clear hl hrl hs0
  repeat (first | refine run_S ?_ | refine w_box (fun _ => ?_) | refine w_al (fun _ => ?_))
  refine sl_bslice (vs := [.agg #[.int .i64 rt, .int .i64 ct, .slice pt nt cct]]) sym rfl rfl rfl rfl rfl rfl (all_size rfl) rfl rfl rfl rfl rfl rfl (fun bt => ?_)
  have hrl := (RowO.mk (e := TM) (s := 3) (b := bt) (n := 1) (vs := [.agg #[.int .i64 rt, .int .i64 ct, .slice pt nt cct]]) rfl (all_size rfl) (by omega)).at (U := U2) (M := (bt, .arr [.agg #[.int .i64 rt, .int .i64 ct, .slice pt nt cct]], TM) :: (bl, .arr [.agg #[.int .i64 ds, .int .i64 rs, .int .i64 cs, .slice pa ns cca]], TS) :: (b3, .var (.agg #[.int .i64 rt, .int .i64 ct, .slice pt nt cct]), TM) :: (b2, .var (.agg #[.int .i64 ds, .int .i64 rs, .int .i64 cs, .slice pa ns cca]), TS) :: M) sb
  refine sl_call rfl rfl rfl rfl rfl rfl (fun _ => light10_ct (U := U2) (r := fun _ => rt) (c := fun _ => ct) (n := fun _ => nt) (f := fun _ => ft) (hrl.up uc sb) (one_rows (P := fun _ v => Raw U2 v rt ct nt ft) (ht0.up uc)) (by decide)) ?_
  rintro v3 U3 D3 hU3 ⟨b, rfl, hl, rfl, rfl⟩
  try rw [List.nil_append]
  cases b
  · repeat (first | refine run_S ?_ | refine w_box (fun _ => ?_) | refine w_al (fun _ => ?_))
    exact sk_ret [] sym rfl (.cons (.tmp rfl) .nil) uc sb (.inl rfl) rfl
  have lt := hl rfl 0 _ rfl
  clear hl hrl ht0
  repeat (first | refine run_S ?_ | refine w_box (fun _ => ?_) | refine w_al (fun _ => ?_))
  refine sl_call rfl rfl rfl rfl rfl rfl (fun _ => m9Valid_ct (r := rt) (c := ct) (n := nt) (p := pt) (cc := cct) (by omega)) ?_
  rintro v U' D hU ⟨rfl, rfl, rfl⟩
  repeat (first | refine run_S ?_ | refine w_box (fun _ => ?_) | refine w_al (fun _ => ?_))
  by_cases hvt : Vld rt ct nt
  case neg =>
    rw [decide_eq_false hvt]
    repeat (first | refine run_S ?_ | refine w_box (fun _ => ?_) | refine w_al (fun _ => ?_))
    exact sk_ret [] sym rfl (.cons (.tmp rfl) .nil) uc sb (.inl rfl) rfl
  rw [decide_eq_true hvt]
  repeat (first | refine run_S ?_ | refine w_box (fun _ => ?_) | refine w_al (fun _ => ?_))
  refine sl_gdec rfl rfl (fun h => ?_) (fun h1 => ?_)
  · repeat (first | refine run_S ?_ | refine w_box (fun _ => ?_) | refine w_al (fun _ => ?_))
    exact sk_ret [] sym rfl (.cons (.tmp rfl) .nil) uc sb (.inl rfl) rfl
  repeat (first | refine run_S ?_ | refine w_box (fun _ => ?_) | refine w_al (fun _ => ?_))
  refine st_ne rfl (fun h => ?_) (fun h2 => ?_)
  · repeat (first | refine run_S ?_ | refine w_box (fun _ => ?_) | refine w_al (fun _ => ?_))
    exact sk_ret [] sym rfl (.cons (.tmp rfl) .nil) uc sb (.inl rfl) rfl
  obtain ⟨Rs, n, qs, rfl, rfl, rfl, rfl, hRs, hn, sv, eV, wS⟩ := hvs.get' ls
  obtain ⟨Rt, Ct1, rfl, rfl, hRt, hCt, st⟩ := lt.vm hvt
  obtain rfl : n = Rt := by omega
  obtain rfl : n = Ct1 := by omega
  generalize (fun i j => fs (i * n + j)) = S at sv eV wS
  generalize (fun i j => ft (i * n + j)) = T at st
  clear h1 h2 hvs ls lt
  have sS : ∀ i j, i < Rs → j < n → Szq (S i j) 1 := fun i j hi hj => sv.sz (Nat.le_refl 1) hi hj
  have sT : ∀ i j, i < n → j < n → Szq (T i j) 1 := fun i j hi hj => st.sz (Nat.le_refl 1) hi hj
  have sM := mm_szq (r := Rs) (m := n) (B := S) (T := T) sS sT hn
  have hrr : Rs * Rs ≤ 6 * 6 := Nat.mul_le_mul hRs hRs
  have hrn : Rs * n ≤ 6 * 6 := Nat.mul_le_mul hRs hn
  repeat (first | refine run_S ?_ | refine w_box (fun _ => ?_) | refine w_al (fun _ => ?_))
  refine sl_call rfl rfl rfl rfl rfl rfl (fun _ => sRestrict_ok (kept_s kept_w _ _ _ _ uc sv) eV (kept_m kept_w _ _ _ _ uc st) (by decide) (by decide) hn) ?_
  rintro v5 U5 D5 hU5 ⟨vm, e, rfl, he, hi, hy, hno, rfl⟩
  try rw [List.nil_append]
  by_cases hI : La.Inv Rs n S T
  case neg =>
    obtain rfl := he.resolve_left fun h => hI (hi.1 h)
    obtain rfl := hno rfl
    repeat (first | refine run_S ?_ | refine w_box (fun _ => ?_) | refine w_al (fun _ => ?_))
    refine sl_call rfl rfl rfl rfl rfl rfl (fun _ => sQuotient_ok (kept_s kept_w _ _ _ _ uc sv) eV (kept_m kept_w _ _ _ _ uc st) (by decide) (by decide) hn) ?_
    rintro v6 U6 D6 hU6 ⟨vq, e', rfl, he', hi', -, hno', rfl⟩
    try rw [List.nil_append]
    obtain rfl := he'.resolve_left fun h => hI (hi'.1 h)
    obtain rfl := hno' rfl
    repeat (first | refine run_S ?_ | refine w_box (fun _ => ?_) | refine w_al (fun _ => ?_))
    refine sl_call rfl rfl rfl rfl rfl rfl (fun _ => r10Restrict_ct (kept_s kept_w _ _ _ _ uc sv) eV (kept_m kept_w _ _ _ _ uc st) (by decide) (by decide) hn) ?_
    rintro v7 U7 D7 hU7 ⟨vw, s, rfl, hs7, -, hno7, rfl⟩
    try rw [List.nil_append]
    cases s
    case true => exact absurd (hs7.1 rfl) hI
    obtain rfl := hno7 rfl
    repeat (first | refine run_S ?_ | refine w_box (fun _ => ?_) | refine w_al (fun _ => ?_))
    refine sl_gdec rfl rfl (fun _ => ?_) (fun h => absurd rfl h)
    repeat (first | refine run_S ?_ | refine w_box (fun _ => ?_) | refine w_al (fun _ => ?_))
    refine sl_gdec rfl rfl (fun _ => ?_) (fun h => absurd rfl h)
    repeat (first | refine run_S ?_ | refine w_box (fun _ => ?_) | refine w_al (fun _ => ?_))
    exact sk_ret [] sym rfl (.cons (.tmp rfl) .nil) uc sb (.inl rfl) (by rw [dec_true (by omega)]; rfl)
  obtain rfl := hi.2 hI
  have hR := hy rfl
  clear hy hno
  obtain ⟨_, rfl, p5, c5, s5, rfl, -⟩ := id hR
  repeat (first | refine run_S ?_ | refine w_box (fun _ => ?_) | refine w_al (fun _ => ?_))
  refine sl_call rfl rfl rfl rfl rfl rfl (fun _ => sQuotient_ok (kept_s kept_w _ _ _ _ uc sv) eV (kept_m kept_w _ _ _ _ uc st) (by decide) (by decide) hn) ?_
  rintro v6 U6 D6 hU6 ⟨vq, e', rfl, he', hi', hy', -, rfl⟩
  try rw [List.nil_append]
  obtain rfl := hi'.2 hI
  obtain ⟨m, f, cC, hm, hQ⟩ := hy' rfl
  clear hy'
  have hmm : m * m ≤ 6 * 6 := Nat.mul_le_mul (by omega) (by omega)
  obtain ⟨_, rfl, p6, c6, s6, rfl, -⟩ := id hQ
  repeat (first | refine run_S ?_ | refine w_box (fun _ => ?_) | refine w_al (fun _ => ?_))
  refine sl_call rfl rfl rfl rfl rfl rfl (fun _ => r10Restrict_ct (kept_s kept_w _ _ _ _ uc sv) eV (kept_m kept_w _ _ _ _ uc st) (by decide) (by decide) hn) ?_
  rintro v7 U7 D7 hU7 ⟨vw, s, rfl, hs7, hy7, -, rfl⟩
  try rw [List.nil_append]
  obtain rfl := hs7.2 hI
  have hR' := hy7 rfl
  clear hy7
  obtain ⟨_, rfl, p7, c7, s7, rfl, -⟩ := id hR'
  repeat (first | refine run_S ?_ | refine w_box (fun _ => ?_) | refine w_al (fun _ => ?_))
  refine sl_call rfl rfl rfl rfl rfl rfl (fun _ => r10Quotient_ct (kept_s kept_w _ _ _ _ uc sv) eV (kept_m kept_w _ _ _ _ uc st) (by decide) (by decide) hn) ?_
  rintro v8 U8 D8 hU8 ⟨vw, s, rfl, hs8, hy8, -, rfl⟩
  try rw [List.nil_append]
  obtain rfl := hs8.2 hI
  obtain ⟨m', f', cC', hm', hQ'⟩ := hy8 rfl
  clear hy8
  obtain ⟨rfl, hff⟩ := cC.unique cC'
  obtain ⟨_, rfl, p8, c8, s8, rfl, -⟩ := id hQ'
  repeat (first | refine run_S ?_ | refine w_box (fun _ => ?_) | refine w_al (fun _ => ?_))
  refine sl_gdec rfl rfl (fun h => absurd rfl h) (fun _ => ?_)
  repeat (first | refine run_S ?_ | refine w_box (fun _ => ?_) | refine w_al (fun _ => ?_))
  refine sl_gdec rfl rfl (fun h => absurd rfl h) (fun _ => ?_)
  repeat (first | refine run_S ?_ | refine w_box (fun _ => ?_) | refine w_al (fun _ => ?_))
  refine sl_call rfl rfl rfl rfl rfl rfl (fun _ => bSameMatrix_ct (kept_m kept_q _ _ _ _ uc hR) (kept_m kept_q _ _ _ _ uc hR') (by omega) (by omega)) ?_
  rintro v9 U9 D9 hU9 ⟨b, rfl, hb, rfl, rfl⟩
  try rw [List.nil_append]
  obtain rfl := hb.2 ⟨rfl, rfl, fun _ _ _ _ => rfl⟩
  repeat (first | refine run_S ?_ | refine w_box (fun _ => ?_) | refine w_al (fun _ => ?_))
  refine sl_call rfl rfl rfl rfl rfl rfl (fun _ => bSameMatrix_ct (kept_m kept_q _ _ _ _ uc hQ) (kept_m kept_q _ _ _ _ uc hQ') (by omega) (by omega)) ?_
  rintro v10 U10 D10 hU10 ⟨b, rfl, hb, rfl, rfl⟩
  try rw [List.nil_append]
  obtain rfl := hb.2 ⟨rfl, rfl, fun i j hi hj => by unfold La.quo; rw [hff i hi, hff j hj]⟩
  repeat (first | refine run_S ?_ | refine w_box (fun _ => ?_) | refine w_al (fun _ => ?_))
  have sR : ∀ i j, i < Rs → j < Rs → Szq (La.rst n S T qs i j) 19 := fun i j hi hj => (sM i _ hi (eV.lt j hj)).mono (by decide)
  have sQ : ∀ i j, i < m → j < m → Szq (La.quo Rs S T qs f i j) 22 := fun i j hi hj => (szq_prj (b := 1) (bv := 1) hRs eV.lt sS (fun j hj => sT _ j (cC.lt i hi) hj) (cC.lt j hj)).mono (by decide)
  have sR1 : Szq (La.sm Rs fun i => La.rst n S T qs i i) 121 := (szq_sm fun i hi => sR i i hi hi).mono (by omega)
  have sQ1 : Szq (La.sm m fun i => La.quo Rs S T qs f i i) 139 := (szq_sm fun i hi => sQ i i hi hi).mono (by omega)
  refine st_draw [0, 2, 1, 3, 4, 5, 6] sym (by kernel_rfl) ?_
  repeat (first | refine run_S ?_ | refine w_box (fun _ => ?_) | refine w_al (fun _ => ?_))
  refine sl_call rfl rfl rfl rfl rfl rfl (fun _ => m9Trace_ct (b := 19) ((kept_m kept_q _ _ _ _ uc hR).w sR) (by decide) (by omega) (by decide) (by omega)) ?_
  rintro v Uh11 D hU ⟨xh11, rfl, h11, rfl⟩
  repeat (first | refine run_S ?_ | refine w_box (fun _ => ?_) | refine w_al (fun _ => ?_))
  refine sl_call rfl rfl rfl rfl rfl rfl (fun _ => m9Trace_ct (b := 22) ((kept_m kept_q _ _ _ _ uc hQ).w sQ) (by decide) (by omega) (by decide) (by omega)) ?_
  rintro v Uh12 D hU ⟨xh12, rfl, h12, rfl⟩
  repeat (first | refine run_S ?_ | refine w_box (fun _ => ?_) | refine w_al (fun _ => ?_))
  refine sl_call rfl rfl rfl rfl rfl rfl (fun _ => rqAdd_ct (h11.rep.up uc sb) (h11.le sR1 (by decide)) (h12.rep.up uc sb) (h12.le sQ1 (by decide))) ?_
  rintro v Uh13 D hU ⟨xh13, rfl, h13, rfl⟩
  repeat (first | refine run_S ?_ | refine w_box (fun _ => ?_) | refine w_al (fun _ => ?_))
  repeat (first | refine run_S ?_ | refine w_box (fun _ => ?_) | refine w_al (fun _ => ?_))
  refine st_draw [0, 1, 2, 3, 4, 5, 6, 7, 9, 10, 11, 8, 12, 13, 14, 15] sym (by kernel_rfl) ?_
  repeat (first | refine run_S ?_ | refine w_box (fun _ => ?_) | refine w_al (fun _ => ?_))
  refine sl_call rfl rfl rfl rfl rfl rfl (fun _ => m9Trace_ct (b := 1) (kept_m kept_w _ _ _ _ uc st) (by decide) (by omega) (by decide) (by omega)) ?_
  rintro v Uh14 D hU ⟨xh14, rfl, h14, rfl⟩
  repeat (first | refine run_S ?_ | refine w_box (fun _ => ?_) | refine w_al (fun _ => ?_))
  refine sl_call rfl rfl rfl rfl rfl rfl (fun _ => rqSame_ct (h13.up uc sb) (h14.up uc sb)) ?_
  rintro v U' D hU ⟨rfl, rfl, rfl⟩
  repeat (first | refine run_S ?_ | refine w_box (fun _ => ?_) | refine w_al (fun _ => ?_))
  rw [decide_eq_true (La.trace_quo eV cC)]
  repeat (first | refine run_S ?_ | refine w_box (fun _ => ?_) | refine w_al (fun _ => ?_))
  refine sl_call rfl rfl rfl rfl rfl rfl (fun _ => m9Mul_ct (b := 19) ((kept_m kept_q _ _ _ _ uc hR).w sR) (kept_m kept_w _ _ _ _ uc (sv.vm.mono (by decide))) (by decide) (by omega) (by decide) (by omega) (by omega) (by omega)) ?_
  rintro v15 U15 D15 hU15 ⟨h15, rfl⟩
  try rw [List.nil_append]
  obtain ⟨_, rfl, p15, c15, s15, rfl, -⟩ := id h15
  repeat (first | refine run_S ?_ | refine w_box (fun _ => ?_) | refine w_al (fun _ => ?_))
  refine sl_call rfl rfl rfl rfl rfl rfl (fun _ => m9Mul_ct (b := 1) (kept_m kept_w _ _ _ _ uc sv.vm) (kept_m kept_w _ _ _ _ uc st) (by decide) (by omega) (by decide) (by omega) (by omega) (by omega)) ?_
  rintro v16 U16 D16 hU16 ⟨h16, rfl⟩
  try rw [List.nil_append]
  refine sl_call rfl rfl rfl rfl rfl rfl (fun _ => bSameMatrix_ct (kept_m kept_q _ _ _ _ uc h15) (kept_m kept_q _ _ _ _ uc h16) (by omega) (by omega)) ?_
  rintro v17 U17 D17 hU17 ⟨b, rfl, hb, rfl, rfl⟩
  try rw [List.nil_append]
  obtain rfl := hb.2 ⟨rfl, rfl, fun i j hi hj => La.rst_mm eV hI hi hj⟩
  repeat (first | refine run_S ?_ | refine w_box (fun _ => ?_) | refine w_al (fun _ => ?_))
  exact sk_ret [] sym rfl (.cons (.tmp rfl) .nil) uc sb (.inl rfl) rfl

end Go.Proofs.YtocjmbilepbokaaGreat
