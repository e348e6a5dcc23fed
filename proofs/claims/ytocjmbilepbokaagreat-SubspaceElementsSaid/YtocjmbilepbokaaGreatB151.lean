/- Laws of layer 10: elements and coordinates. -/
import Derived.Test.YtocjmbilepbokaaGreatB150
namespace Go.Proofs.YtocjmbilepbokaaGreat
open Go.Hp
variable {G : World} {U U' : UH} {M M' : MH}

set_option maxHeartbeats 2000000 in
set_option maxRecDepth 100000 in
theorem SubspaceElements_ct {vs vx : Value} {ds rs cs : Int} {ns nx : Nat} {fs fx : Nat → Rat} (hs : RawS U vs ds rs cs ns fs) (hx : nx ≤ 9223372036854775807 ∧ Ls Xq 4 nx U [] vx fx) :
    Ct Tryz.prog 4 [vs, vx] G U M fun v _ _ => v = .bool true := by
  have hs0 := hs
  obtain ⟨-, _, rfl, -, -, hns, _, he, pa, cca, asa, rfl, -⟩ := hs
  simp only [Value.agg.injEq, Array.mk.injEq, List.cons.injEq, and_true, true_and] at he
  subst he
  obtain ⟨hnx, px, cx, xs, rfl, hcx, rx, ex⟩ := hx
  refine ct_of_st Tryz.func4 rfl rfl rfl rfl ?_
  repeat (first | refine run_S ?_ | refine w_box (fun _ => ?_) | refine w_al (fun _ => ?_))
  rename_i b2
  refine sl_call rfl rfl rfl rfl rfl rfl (fun _ => awake10_ct) ?_
  rintro v1 U1 D1 hU1 ⟨rfl, -, rfl⟩
  try rw [List.nil_append]
  repeat (first | refine run_S ?_ | refine w_box (fun _ => ?_) | refine w_al (fun _ => ?_))
  refine sl_bslice (vs := [.agg #[.int .i64 rs, .int .i64 cs, .slice pa ns cca]]) sym rfl rfl rfl rfl rfl rfl (all_size rfl) rfl rfl rfl rfl rfl rfl (fun bl => ?_)
  have hrl := (RowO.mk (e := TM) (s := 3) (b := bl) (n := 1) (vs := [.agg #[.int .i64 rs, .int .i64 cs, .slice pa ns cca]]) rfl (all_size rfl) (by omega)).at (U := U1) (M := (bl, .arr [.agg #[.int .i64 rs, .int .i64 cs, .slice pa ns cca]], TM) :: (b2, .var (.agg #[.int .i64 ds, .int .i64 rs, .int .i64 cs, .slice pa ns cca]), TS) :: M) sb
  refine sl_call rfl rfl rfl rfl rfl rfl (fun _ => light10_ct (U := U1) (r := fun _ => rs) (c := fun _ => cs) (n := fun _ => ns) (f := fun _ => fs) (hrl.up uc sb) (one_rows (P := fun _ v => Raw U1 v rs cs ns fs) (hs0.raw.up uc)) (by decide)) ?_
  rintro v2 U2 D2 hU2 ⟨b, rfl, hl, rfl, rfl⟩
  try rw [List.nil_append]
  cases b
  · repeat (first | refine run_S ?_ | refine w_box (fun _ => ?_) | refine w_al (fun _ => ?_))
    exact sk_ret [] sym rfl (.cons (.tmp rfl) .nil) uc sb (.inl rfl) rfl
  have ls : LitS U1 (.agg #[.int .i64 ds, .int .i64 rs, .int .i64 cs, .slice pa ns cca]) ds rs cs ns fs := LitS.of (hl rfl 0 _ rfl)
  clear hl hrl hs0
  repeat (first | refine run_S ?_ | refine w_box (fun _ => ?_) | refine w_al (fun _ => ?_))
  refine sl_gdec rfl rfl (fun h => ?_) (fun hx20 => ?_)
  · repeat (first | refine run_S ?_ | refine w_box (fun _ => ?_) | refine w_al (fun _ => ?_))
    exact sk_ret [] sym rfl (.cons (.tmp rfl) .nil) uc sb (.inl rfl) rfl
  repeat (first | refine run_S ?_ | refine w_box (fun _ => ?_) | refine w_al (fun _ => ?_))
  refine sl_call rfl rfl rfl rfl rfl rfl (fun _ => short10_ct (rx.ls uc) (ex.up kept_x uc) (by omega)) ?_
  rintro v4 U4 D4 hU4 ⟨b, rfl, hb, rfl, rfl⟩
  try rw [List.nil_append]
  cases b
  · repeat (first | refine run_S ?_ | refine w_box (fun _ => ?_) | refine w_al (fun _ => ?_))
    exact sk_ret [] sym rfl (.cons (.tmp rfl) .nil) uc sb (.inl rfl) rfl
  have hv : Ls (Wq 1) 4 nx U1 [] (.slice px nx cx) fx := ⟨px, cx, xs, rfl, hcx, rx.up uc (List.Sublist.refl _), hb rfl⟩
  clear hb rx ex
  repeat (first | refine run_S ?_ | refine w_box (fun _ => ?_) | refine w_al (fun _ => ?_))
  by_cases hV : VldS ds rs cs ns fs ∧ (nx : Int) = ds
  case neg =>
    refine sl_call rfl rfl rfl rfl rfl rfl (fun _ => sContains_no (ls.up uc) hV) ?_
    rintro v5 U5 D5 hU5 ⟨rfl, e1, rfl, he1, hi1⟩
    try rw [List.nil_append]
    repeat (first | refine run_S ?_ | refine w_box (fun _ => ?_) | refine w_al (fun _ => ?_))
    refine sl_call rfl rfl rfl rfl rfl rfl (fun _ => sCoordinates_no (ls.up uc) hV) ?_
    rintro v6 U6 D6 hU6 ⟨rfl, e2, rfl, he2, hi2⟩
    try rw [List.nil_append]
    repeat (first | refine run_S ?_ | refine w_box (fun _ => ?_) | refine w_al (fun _ => ?_))
    refine sl_call rfl rfl rfl rfl rfl rfl (fun _ => r10Valid_any (ls.up uc)) ?_
    rintro v7 U7 D7 hU7 ⟨rfl, b, rfl, hb⟩
    try rw [List.nil_append]
    cases b
    · have hno : ¬ VldS ds rs cs ns fs := fun h => by have := hb.2 h; cases this
      obtain rfl := hi1.2 hno
      obtain rfl := hi2.2 hno
      repeat (first | refine run_S ?_ | refine w_box (fun _ => ?_) | refine w_al (fun _ => ?_))
      refine sl_gdec rfl rfl (fun _ => ?_) (fun h => absurd rfl h)
      repeat (first | refine run_S ?_ | refine w_box (fun _ => ?_) | refine w_al (fun _ => ?_))
      refine sl_gdec rfl rfl (fun _ => ?_) (fun h => absurd rfl h)
      repeat (first | refine run_S ?_ | refine w_box (fun _ => ?_) | refine w_al (fun _ => ?_))
      rw [show dec (((0 : Nat) : Int) = 0) = true from dec_true rfl]
      exact sk_ret [] sym rfl (.cons (.tmp rfl) .nil) uc sb (.inl rfl) rfl
    · have hy := hb.1 rfl
      obtain rfl : e1 = 4 := he1.resolve_left fun h => hi1.1 h hy
      obtain rfl : e2 = 4 := he2.resolve_left fun h => hi2.1 h hy
      have hne : ¬ (nx : Int) = ds := fun h => hV ⟨hy, h⟩
      repeat (first | refine run_S ?_ | refine w_box (fun _ => ?_) | refine w_al (fun _ => ?_))
      refine st_ne rfl (fun _ => ?_) (fun h => absurd (by omega) hne)
      repeat (first | refine run_S ?_ | refine w_box (fun _ => ?_) | refine w_al (fun _ => ?_))
      refine sl_gdec rfl rfl (fun _ => ?_) (fun h => absurd rfl h)
      repeat (first | refine run_S ?_ | refine w_box (fun _ => ?_) | refine w_al (fun _ => ?_))
      refine sl_gdec rfl rfl (fun _ => ?_) (fun h => absurd rfl h)
      repeat (first | refine run_S ?_ | refine w_box (fun _ => ?_) | refine w_al (fun _ => ?_))
      rw [show dec (((0 : Nat) : Int) = 0) = true from dec_true rfl]
      exact sk_ret [] sym rfl (.cons (.tmp rfl) .nil) uc sb (.inl rfl) rfl
  obtain ⟨hV1, hV2⟩ := hV
  have hV0 := hV1
  obtain ⟨Rs, n, q, rfl, rfl, rfl, rfl, hRs, hn, sv, eV, wS⟩ := hV1.get' ls
  obtain rfl : nx = n := by omega
  have hrn : Rs * nx ≤ 6 * 6 := Nat.mul_le_mul hRs hn
  refine sl_call rfl rfl rfl rfl rfl rfl (fun _ => sContains_ok (kept_s kept_w _ _ _ _ uc sv) eV (Ls.up hv kept_w uc (List.Sublist.refl _)) (by decide) (by decide) (by decide) (by decide) hn) ?_
  rintro v5 U5 D5 hU5 ⟨w, rfl, hw, rfl⟩
  try rw [List.nil_append]
  repeat (first | refine run_S ?_ | refine w_box (fun _ => ?_) | refine w_al (fun _ => ?_))
  refine sl_call rfl rfl rfl rfl rfl rfl (fun _ => sCoordinates_ct (kept_s kept_w _ _ _ _ uc sv) eV (Ls.up hv kept_w uc (List.Sublist.refl _)) (by decide) (by decide) (by decide) (by decide) hn) ?_
  rintro v6 U6 D6 hU6 ⟨vc, e, rfl, he, hi, hy, hno, rfl⟩
  try rw [List.nil_append]
  have hform : ∃ (p : Option Addr) (k cc : Nat), vc = .slice p k cc := by
    rcases he with rfl | rfl
    · obtain ⟨p, c, s, rfl, -⟩ := hy rfl
      exact ⟨_, _, _, rfl⟩
    · exact ⟨_, _, _, hno rfl⟩
  obtain ⟨p6, k6, c6, rfl⟩ := hform
  repeat (first | refine run_S ?_ | refine w_box (fun _ => ?_) | refine w_al (fun _ => ?_))
  refine sl_call rfl rfl rfl rfl rfl rfl (fun _ => r10Valid_any (ls.up uc)) ?_
  rintro v7 U7 D7 hU7 ⟨rfl, b, rfl, hb⟩
  try rw [List.nil_append]
  obtain rfl := hb.2 hV0
  repeat (first | refine run_S ?_ | refine w_box (fun _ => ?_) | refine w_al (fun _ => ?_))
  refine st_ne rfl (fun h => absurd rfl h) (fun _ => ?_)
  repeat (first | refine run_S ?_ | refine w_box (fun _ => ?_) | refine w_al (fun _ => ?_))
  refine sl_call rfl rfl rfl rfl rfl rfl (fun _ => r10Coordinates_ct (kept_s kept_w _ _ _ _ uc sv) eV (Ls.up hv kept_w uc (List.Sublist.refl _)) (by decide) (by decide) (by decide) (by decide) hn) ?_
  rintro v8 U8 D8 hU8 ⟨vd, s, rfl, hs8, hy8, hno8, rfl⟩
  try rw [List.nil_append]
  obtain rfl : w = s := same_bool hw hs8
  cases w
  · have hne : ¬ La.Sp Rs nx (fun i j => fs (i * nx + j)) fx := fun h => by have := hs8.2 h; cases this
    obtain rfl := he.resolve_left fun h => hne (hi.1 h)
    obtain ⟨rfl, rfl, rfl⟩ := Value.slice.inj (hno rfl)
    obtain rfl := hno8 rfl
    repeat (first | refine run_S ?_ | refine w_box (fun _ => ?_) | refine w_al (fun _ => ?_))
    refine sl_gdec rfl rfl (fun h => absurd rfl h) (fun _ => ?_)
    repeat (first | refine run_S ?_ | refine w_box (fun _ => ?_) | refine w_al (fun _ => ?_))
    refine sl_gdec rfl rfl (fun _ => ?_) (fun h => absurd rfl h)
    repeat (first | refine run_S ?_ | refine w_box (fun _ => ?_) | refine w_al (fun _ => ?_))
    rw [show dec (((0 : Nat) : Int) = 0) = true from dec_true rfl]
    exact sk_ret [] sym rfl (.cons (.tmp rfl) .nil) uc sb (.inl rfl) rfl
  have hsp := hs8.1 rfl
  obtain rfl := hi.2 hsp
  have hC := hy rfl
  have hC8 := hy8 rfl
  clear hy hno hno8 hy8
  have sf : ∀ j, j < nx → Szq (fx j) 1 := fun j hj => hv.sz (Nat.le_refl 1) hj
  obtain ⟨p8, c8, s8, rfl, -⟩ := id hC8
  obtain ⟨p9, c9, s9, heq, -⟩ := id hC
  obtain ⟨rfl, rfl, rfl⟩ := Value.slice.inj heq
  repeat (first | refine run_S ?_ | refine w_box (fun _ => ?_) | refine w_al (fun _ => ?_))
  refine sl_gdec rfl rfl (fun h => absurd rfl h) (fun _ => ?_)
  repeat (first | refine run_S ?_ | refine w_box (fun _ => ?_) | refine w_al (fun _ => ?_))
  refine st_draw [0, 1, 2, 3, 4, 5, 6, 7, 8, 9, 10, 12, 13, 16, 11, 14, 15, 17, 18, 19, 20] sym (by kernel_rfl) ?_
  repeat (first | refine run_S ?_ | refine w_box (fun _ => ?_) | refine w_al (fun _ => ?_))
  refine sl_gdec rfl rfl (fun _ => ?_) (fun h => absurd rfl h)
  repeat (first | refine run_S ?_ | refine w_box (fun _ => ?_) | refine w_al (fun _ => ?_))
  refine sl_call rfl rfl rfl rfl rfl rfl (fun _ => bSameRats_ct (Ls.up (M' := _) hC kept_q uc (List.nil_sublist _)) (Ls.up (M' := _) hC8 kept_q uc (List.nil_sublist _)) (by omega) (by omega)) ?_
  rintro v9 U9 D9 hU9 ⟨b, rfl, hb, rfl, rfl⟩
  try rw [List.nil_append]
  obtain rfl := hb.2 ⟨rfl, fun _ _ => rfl⟩
  repeat (first | refine run_S ?_ | refine w_box (fun _ => ?_) | refine w_al (fun _ => ?_))
  refine sl_call rfl rfl rfl rfl rfl rfl (fun _ => (m9Apply_ct (b := 1) (Ls.up (M' := _) (Ls.toW hC fun i hi => sf _ (eV.lt i hi)) kept_w uc (List.nil_sublist _)) (kept_m kept_w _ _ _ _ uc sv.vm) (by decide) (by omega) (by decide) (by omega) (by omega) (by omega)).setl kept_q) ?_
  rintro v10 U10 D10 hU10 ⟨h10, rfl⟩
  try rw [List.nil_append]
  obtain ⟨p10, c10, s10, rfl, -⟩ := id h10
  repeat (first | refine run_S ?_ | refine w_box (fun _ => ?_) | refine w_al (fun _ => ?_))
  refine sl_call rfl rfl rfl rfl rfl rfl (fun _ => (m9Zeros_ct (n := nx) (by omega)).setl kept_q) ?_
  rintro v11 U11 D11 hU11 ⟨h11, rfl⟩
  try rw [List.nil_append]
  obtain ⟨p11, c11, s11, rfl, -⟩ := id h11
  repeat (first | refine run_S ?_ | refine w_box (fun _ => ?_) | refine w_al (fun _ => ?_))
  refine sl_call rfl rfl rfl rfl rfl rfl (fun _ => rqOf_ct (z := 1) (by decide) (by decide)) ?_
  rintro v Uh12 D hU ⟨xh12, rfl, h12, rfl⟩
  repeat (first | refine run_S ?_ | refine w_box (fun _ => ?_) | refine w_al (fun _ => ?_))
  have hv2 := Ls.up hv kept_w (U' := Uh12) uc (List.Sublist.refl _)
  refine sl_call rfl rfl rfl rfl rfl rfl (fun _ => (m9Combine_ct (b := 1) (Ls.up (M' := _) (Ls.toW h11 fun _ _ => szq_int0) kept_w uc (List.nil_sublist _)) (h12.rep.up uc sb) (h12.le szq_int1 (Nat.le_refl 1)) (Ls.up (M' := _) hv2 kept_w uc (List.nil_sublist _)) (by decide) (by decide) (by omega)).setl kept_q) ?_
  rintro v13 U13 D13 hU13 ⟨h13, rfl⟩
  try rw [List.nil_append]
  refine sl_call rfl rfl rfl rfl rfl rfl (fun _ => bSameRats_ct (Ls.up (M' := _) h10 kept_q uc (List.nil_sublist _)) (Ls.up (M' := _) h13 kept_q uc (List.nil_sublist _)) (by omega) (by omega)) ?_
  rintro v14 U14 D14 hU14 ⟨b, rfl, hb, rfl, rfl⟩
  try rw [List.nil_append]
  obtain rfl := hb.2 ⟨rfl, fun j hj => by rw [← eV.coef hsp hj]; show fx j = 0 + ((1 : Int) : Rat) * fx j; rw [Rat.intCast_one, Rat.one_mul, Rat.zero_add]⟩
  repeat (first | refine run_S ?_ | refine w_box (fun _ => ?_) | refine w_al (fun _ => ?_))
  exact sk_ret [] sym rfl (.cons (.tmp rfl) .nil) uc sb (.inl rfl) rfl

end Go.Proofs.YtocjmbilepbokaaGreat
