/- Laws of layer 10: images and preimages. -/
import Derived.Test.YtocjmbilepbokaaGreatB145
namespace Go.Proofs.YtocjmbilepbokaaGreat
open Go.Hp
variable {G : World} {U U' : UH} {M M' : MH}

theorem three_rows {α : Type} {P : Nat → α → Prop} {a b c : α} (h0 : P 0 a) (h1 : P 1 b) (h2 : P 2 c) : ∀ k v, [a, b, c][k]? = some v → P k v
  | 0, v, h => by cases h; exact h0
  | 1, v, h => by cases h; exact h1
  | 2, v, h => by cases h; exact h2
  | k + 3, v, h => by simp at h
theorem Gw.same {w r s n : Nat} {R S : Nat → Nat → Rat} (h : Gw w r n R) (e : La.Same s r n S R) : Gw w s n S := by
  obtain ⟨k, T, h1, h2⟩ := h
  exact ⟨k, T, h1, e.trans h2⟩
theorem LitS.of {d r c : Int} {n : Nat} {f : Nat → Rat} {a : Value} (h : Lit 6 U (.agg #[.int .i64 r, .int .i64 c, a]) r c n f) : LitS U (.agg #[.int .i64 d, .int .i64 r, .int .i64 c, a]) d r c n f := ⟨_, rfl, h⟩
theorem RawS.raw {d r c : Int} {n : Nat} {f : Nat → Rat} {a : Value} (h : RawS U (.agg #[.int .i64 d, .int .i64 r, .int .i64 c, a]) d r c n f) : Raw U (.agg #[.int .i64 r, .int .i64 c, a]) r c n f := by
  obtain ⟨-, a', h1, h2⟩ := h
  simp only [Value.agg.injEq, Array.mk.injEq, List.cons.injEq, and_true, true_and] at h1
  subst h1
  exact h2

set_option maxHeartbeats 2000000 in
set_option maxRecDepth 100000 in
theorem SubspaceMaps_ct {vs vu vt : Value} {ds rs cs du ru cu rt ct : Int} {ns nu nt : Nat} {fs fu ft : Nat → Rat} (hs : RawS U vs ds rs cs ns fs) (hu : RawS U vu du ru cu nu fu) (ht : Raw U vt rt ct nt ft) :
    Ct Tryz.prog 8 [vs, vu, vt] G U M fun v _ _ => v = .bool true := by
  have hs0 := hs
  have hu0 := hu
  have ht0 := ht
  obtain ⟨-, _, rfl, -, -, hns, _, he, pa, cca, asa, rfl, -⟩ := hs
  simp only [Value.agg.injEq, Array.mk.injEq, List.cons.injEq, and_true, true_and] at he
  subst he
  obtain ⟨-, _, rfl, -, -, hnu, _, he, pb, ccb, asb, rfl, -⟩ := hu
  simp only [Value.agg.injEq, Array.mk.injEq, List.cons.injEq, and_true, true_and] at he
  subst he
  obtain ⟨-, -, hnt, _, rfl, pt, cct, ast, rfl, -⟩ := ht
  refine ct_of_st Tryz.func8 rfl rfl rfl rfl ?_
  repeat (first | refine run_S ?_ | refine w_box (fun _ => ?_) | refine w_al (fun _ => ?_))
  rename_i b3 b4 b5
  refine sl_call rfl rfl rfl rfl rfl rfl (fun _ => awake10_ct) ?_
  rintro v1 U1 D1 hU1 ⟨rfl, -, rfl⟩
  try rw [List.nil_append]
  repeat (first | refine run_S ?_ | refine w_box (fun _ => ?_) | refine w_al (fun _ => ?_))
  refine sl_bslice (vs := [.agg #[.int .i64 rs, .int .i64 cs, .slice pa ns cca], .agg #[.int .i64 ru, .int .i64 cu, .slice pb nu ccb], .agg #[.int .i64 rt, .int .i64 ct, .slice pt nt cct]]) sym rfl rfl rfl rfl rfl rfl (all_size rfl) rfl rfl rfl rfl rfl rfl (fun bl => ?_)
  have hrl := (RowO.mk (e := TM) (s := 3) (b := bl) (n := 3) (vs := [.agg #[.int .i64 rs, .int .i64 cs, .slice pa ns cca], .agg #[.int .i64 ru, .int .i64 cu, .slice pb nu ccb], .agg #[.int .i64 rt, .int .i64 ct, .slice pt nt cct]]) rfl (all_size rfl) (by omega)).at (U := U1) (M := (bl, .arr [.agg #[.int .i64 rs, .int .i64 cs, .slice pa ns cca], .agg #[.int .i64 ru, .int .i64 cu, .slice pb nu ccb], .agg #[.int .i64 rt, .int .i64 ct, .slice pt nt cct]], TM) :: (b5, .var (.agg #[.int .i64 rt, .int .i64 ct, .slice pt nt cct]), TM) :: (b4, .var (.agg #[.int .i64 du, .int .i64 ru, .int .i64 cu, .slice pb nu ccb]), TS) :: (b3, .var (.agg #[.int .i64 ds, .int .i64 rs, .int .i64 cs, .slice pa ns cca]), TS) :: M) sb
  refine sl_call rfl rfl rfl rfl rfl rfl (fun _ => light10_ct (U := U1) (r := fun k => if k = 0 then rs else if k = 1 then ru else rt) (c := fun k => if k = 0 then cs else if k = 1 then cu else ct) (n := fun k => if k = 0 then ns else if k = 1 then nu else nt) (f := fun k => if k = 0 then fs else if k = 1 then fu else ft) (hrl.up uc sb) (three_rows (P := fun k v => Raw U1 v (if k = 0 then rs else if k = 1 then ru else rt) (if k = 0 then cs else if k = 1 then cu else ct) (if k = 0 then ns else if k = 1 then nu else nt) (if k = 0 then fs else if k = 1 then fu else ft)) (hs0.raw.up uc) (hu0.raw.up uc) (ht0.up uc)) (by decide)) ?_
  rintro v2 U2 D2 hU2 ⟨b, rfl, hl, rfl, rfl⟩
  try rw [List.nil_append]
  cases b
  · repeat (first | refine run_S ?_ | refine w_box (fun _ => ?_) | refine w_al (fun _ => ?_))
    exact sk_ret [] sym rfl (.cons (.tmp rfl) .nil) uc sb (.inl rfl) rfl
  have ls : LitS U1 (.agg #[.int .i64 ds, .int .i64 rs, .int .i64 cs, .slice pa ns cca]) ds rs cs ns fs := LitS.of (hl rfl 0 _ rfl)
  have lu : LitS U1 (.agg #[.int .i64 du, .int .i64 ru, .int .i64 cu, .slice pb nu ccb]) du ru cu nu fu := LitS.of (hl rfl 1 _ rfl)
  have lt : Lit 6 U1 (.agg #[.int .i64 rt, .int .i64 ct, .slice pt nt cct]) rt ct nt ft := hl rfl 2 _ rfl
  clear hl hrl hs0 hu0 ht0
  repeat (first | refine run_S ?_ | refine w_box (fun _ => ?_) | refine w_al (fun _ => ?_))
  refine sl_call rfl rfl rfl rfl rfl rfl (fun _ => r10Valid_any (ls.up uc)) ?_
  rintro v3 U3 D3 hU3 ⟨rfl, b, rfl, hvs⟩
  try rw [List.nil_append]
  cases b
  · repeat (first | refine run_S ?_ | refine w_box (fun _ => ?_) | refine w_al (fun _ => ?_))
    exact sk_ret [] sym rfl (.cons (.tmp rfl) .nil) uc sb (.inl rfl) rfl
  replace hvs := hvs.1 rfl
  repeat (first | refine run_S ?_ | refine w_box (fun _ => ?_) | refine w_al (fun _ => ?_))
  refine sl_call rfl rfl rfl rfl rfl rfl (fun _ => r10Valid_any (lu.up uc)) ?_
  rintro v4 U4 D4 hU4 ⟨rfl, b, rfl, hvu⟩
  try rw [List.nil_append]
  cases b
  · repeat (first | refine run_S ?_ | refine w_box (fun _ => ?_) | refine w_al (fun _ => ?_))
    exact sk_ret [] sym rfl (.cons (.tmp rfl) .nil) uc sb (.inl rfl) rfl
  replace hvu := hvu.1 rfl
  repeat (first | refine run_S ?_ | refine w_box (fun _ => ?_) | refine w_al (fun _ => ?_))
  refine sl_call rfl rfl rfl rfl rfl rfl (fun _ => m9Valid_ct (r := rt) (c := ct) (n := nt) (p := pt) (cc := cct) (by omega)) ?_
  rintro v U' D hU ⟨rfl, rfl, rfl⟩
  repeat (first | refine run_S ?_ | refine w_box (fun _ => ?_) | refine w_al (fun _ => ?_))
  by_cases hvt : Vld rt ct nt
  case neg =>
    rw [decide_eq_false hvt]
    repeat (first | refine run_S ?_ | refine w_box (fun _ => ?_) | refine w_al (fun _ => ?_))
    exact sk_ret [] sym rfl (.cons (.tmp rfl) .nil) uc sb (.inl rfl) rfl
  rw [decide_eq_true hvt]
  repeat (first | refine run_S ?_ | refine w_box (fun _ => ?_) | refine w_al (fun _ => ?_))
  refine sl_gdec rfl rfl (fun h => ?_) (fun h1 => ?_)
  · repeat (first | refine run_S ?_ | refine w_box (fun _ => ?_) | refine w_al (fun _ => ?_))
    exact sk_ret [] sym rfl (.cons (.tmp rfl) .nil) uc sb (.inl rfl) rfl
  repeat (first | refine run_S ?_ | refine w_box (fun _ => ?_) | refine w_al (fun _ => ?_))
  refine st_ne rfl (fun h => ?_) (fun h2 => ?_)
  · repeat (first | refine run_S ?_ | refine w_box (fun _ => ?_) | refine w_al (fun _ => ?_))
    exact sk_ret [] sym rfl (.cons (.tmp rfl) .nil) uc sb (.inl rfl) rfl
  obtain ⟨Rs, n, qs, rfl, rfl, rfl, rfl, hRs, hn, sv, eV, wS⟩ := hvs.get' ls
  obtain ⟨Ru, m, qu, rfl, rfl, rfl, rfl, hRu, hm, su, eU, wU⟩ := hvu.get' lu
  obtain ⟨Rt, Ct1, rfl, rfl, hRt, hCt, st⟩ := lt.vm hvt
  obtain rfl : n = Rt := by omega
  obtain rfl : m = Ct1 := by omega
  have wT : Hw (1 * 37 + 1) n m (fun i j => ft (i * m + j)) := hw_short (a := 1) (fun i j hi hj => st.sz (Nat.le_refl 1) hi hj) hn hm
  generalize (fun i j => fs (i * n + j)) = S at sv eV wS
  generalize (fun i j => fu (i * m + j)) = W at su eU wU
  generalize (fun i j => ft (i * m + j)) = T at st wT
  clear h1 h2 hvs hvu ls lu lt
  repeat (first | refine run_S ?_ | refine w_box (fun _ => ?_) | refine w_al (fun _ => ?_))
  refine sl_call rfl rfl rfl rfl rfl rfl (fun _ => sImage_ok (kept_s kept_w _ _ _ _ uc sv) eV (kept_m kept_w _ _ _ _ uc st) (by decide) (by decide) hn hm) ?_
  rintro v5 U5 D5 hU5 ⟨_, s, P, ps, rfl, hP, eP, mP, rfl⟩
  try rw [List.nil_append]
  have hs6 := Nat.le_trans eP.le_n hm
  have hsm : s * m ≤ 6 * 6 := Nat.mul_le_mul hs6 hm
  obtain ⟨_, rfl, p5, c5, s5, rfl, -⟩ := id hP
  repeat (first | refine run_S ?_ | refine w_box (fun _ => ?_) | refine w_al (fun _ => ?_))
  refine sl_call rfl rfl rfl rfl rfl rfl (fun _ => sPreimage_ok (w := 1 * 37 + 1) (v := 1 * 37 + 1) (kept_s kept_w _ _ _ _ uc su) eU wU (kept_m kept_w _ _ _ _ uc st) wT (by decide) (by decide) hn hm) ?_
  rintro v6 U6 D6 hU6 ⟨_, a, c, N, Q, pq, pn, rfl, hQ, kN, kQ, gQ, rfl⟩
  try rw [List.nil_append]
  have ha6 := Nat.le_trans kQ.ech.le_n hn
  have han : a * n ≤ 6 * 6 := Nat.mul_le_mul ha6 hn
  obtain ⟨_, rfl, p6, c6, s6, rfl, -⟩ := id hQ
  repeat (first | refine run_S ?_ | refine w_box (fun _ => ?_) | refine w_al (fun _ => ?_))
  refine st_draw [0, 1, 2, 3, 4, 5, 6, 7, 8, 9, 10, 11, 12, 13, 14, 15, 16, 17, 18, 19, 20, 21] sym (by kernel_rfl) ?_
  repeat (first | refine run_S ?_ | refine w_box (fun _ => ?_) | refine w_al (fun _ => ?_))
  refine sl_gdec rfl rfl (fun h => absurd rfl h) (fun _ => ?_)
  repeat (first | refine run_S ?_ | refine w_box (fun _ => ?_) | refine w_al (fun _ => ?_))
  refine sl_gdec rfl rfl (fun h => absurd rfl h) (fun _ => ?_)
  repeat (first | refine run_S ?_ | refine w_box (fun _ => ?_) | refine w_al (fun _ => ?_))
  refine sl_call rfl rfl rfl rfl rfl rfl (fun _ => r10Image_ct (kept_s kept_w _ _ _ _ uc sv) (kept_m kept_w _ _ _ _ uc st) (by decide) (by decide) hRs hn hm) ?_
  rintro v7 U7 D7 hU7 ⟨s', P', ps', hP', eP', mP', rfl⟩
  try rw [List.nil_append]
  have hsm' : s' * m ≤ 6 * 6 := Nat.mul_le_mul (Nat.le_trans eP'.le_n hm) hm
  refine sl_call rfl rfl rfl rfl rfl rfl (fun _ => bSameSpace_ct (kept_s kept_q _ _ _ _ uc hP) (kept_s kept_q _ _ _ _ uc hP') (by omega) (by omega)) ?_
  rintro v8 U8 D8 hU8 ⟨b, rfl, hb, rfl, rfl⟩
  try rw [List.nil_append]
  obtain rfl := hb.2 (same_spans eP eP' fun v => mP.sp.trans mP'.sp.symm)
  repeat (first | refine run_S ?_ | refine w_box (fun _ => ?_) | refine w_al (fun _ => ?_))
  refine sl_call rfl rfl rfl rfl rfl rfl (fun _ => r10Preimage_ct (w := 1 * 37 + 1) (v := 1 * 37 + 1) (kept_s kept_w _ _ _ _ uc su) eU wU (kept_m kept_w _ _ _ _ uc st) wT (by decide) (by decide) hn hm) ?_
  rintro v9 U9 D9 hU9 ⟨a', c', N', Q', pq', pn', hQ', kN', kQ', -, rfl⟩
  try rw [List.nil_append]
  have han' : a' * n ≤ 6 * 6 := Nat.mul_le_mul (Nat.le_trans kQ'.ech.le_n hn) hn
  refine sl_call rfl rfl rfl rfl rfl rfl (fun _ => bSameSpace_ct (kept_s kept_q _ _ _ _ uc hQ) (kept_s kept_q _ _ _ _ uc hQ') (by omega) (by omega)) ?_
  rintro v10 U10 D10 hU10 ⟨b, rfl, hb, rfl, rfl⟩
  try rw [List.nil_append]
  have spQ := La.sp_preimage eU kN kQ
  obtain rfl := hb.2 (same_spans kQ.ech kQ'.ech fun v => (spQ v).trans (La.sp_preimage eU kN' kQ' v).symm)
  have wP := mm_szq (r := Rs) (m := m) (B := S) (T := T) (fun i j hi hj => sv.sz (Nat.le_refl 1) hi hj) (fun i j hi hj => st.sz (Nat.le_refl 1) hi hj) hn
  have zQ := gQ.hw kQ.ech hn
  have zP := (Gw.same (hw_mm wS wT hn).gen mP).hw eP hm
  repeat (first | refine run_S ?_ | refine w_box (fun _ => ?_) | refine w_al (fun _ => ?_))
  refine sl_call rfl rfl rfl rfl rfl rfl (fun _ => sWithin_ok (ba := 463) (bb := 1) ((kept_s kept_q _ _ _ _ uc hP).w fun i j hi hj => zP.szq (by decide) hi hj) (kept_s kept_w _ _ _ _ uc su) eP eU (by decide) (by decide) (by decide) (by decide) hm) ?_
  rintro v11 U11 D11 hU11 ⟨w1, rfl, hw1, rfl⟩
  try rw [List.nil_append]
  repeat (first | refine run_S ?_ | refine w_box (fun _ => ?_) | refine w_al (fun _ => ?_))
  refine sl_call rfl rfl rfl rfl rfl rfl (fun _ => sWithin_ok (ba := 1) (bb := 12001) (kept_s kept_w _ _ _ _ uc sv) ((kept_s kept_q _ _ _ _ uc hQ).w fun i j hi hj => zQ.szq (by decide) hi hj) eV kQ.ech (by decide) (by decide) (by decide) (by decide) hn) ?_
  rintro v12 U12 D12 hU12 ⟨w2, rfl, hw2, rfl⟩
  try rw [List.nil_append]
  obtain rfl : w1 = w2 := same_bool hw1 (hw2.trans (La.within_image mP spQ).symm)
  repeat (first | refine run_S ?_ | refine w_box (fun _ => ?_) | refine w_al (fun _ => ?_))
  refine sl_gdec rfl rfl (fun _ => ?_) (fun h => absurd rfl h)
  repeat (first | refine run_S ?_ | refine w_box (fun _ => ?_) | refine w_al (fun _ => ?_))
  refine sl_gdec rfl rfl (fun _ => ?_) (fun h => absurd rfl h)
  repeat (first | refine run_S ?_ | refine w_box (fun _ => ?_) | refine w_al (fun _ => ?_))
  exact sk_ret [] sym rfl (.cons (.tmp rfl) .nil) uc sb (.inl rfl) (by rw [beq_self_eq_true]; rfl)

end Go.Proofs.YtocjmbilepbokaaGreat
