/- Laws of layer 10: what is refused. -/
import Derived.Test.YtocjmbilepbokaaGreatM39
namespace Go.Proofs.YtocjmbilepbokaaGreat
open Go.Hp
variable {G : World} {U U' : UH} {M M' : MH}

theorem PErr.eq {a b : Prop} {da db e e' : Int} (h : PErr a b da db e) (h' : PErr a b da db e') : e = e' := by
  have h0 : e = 0 ↔ e' = 0 := h.2.1.trans h'.2.1.symm
  have h3 : e = 3 ↔ e' = 3 := h.2.2.trans h'.2.2.symm
  rcases h.1 with h1 | h1 | h1 <;> rcases h'.1 with h2 | h2 | h2 <;> omega
theorem dec_cong {p q : Prop} [Decidable p] [Decidable q] (h : p ↔ q) : dec p = dec q := by
  by_cases hp : p
  · rw [dec_true hp, dec_true (h.1 hp)]
  · rw [dec_false hp, dec_false fun hq => hp (h.2 hq)]
theorem MErr.zero {a b c : Prop} {e : Int} (h : MErr a (b ∧ c) e) (he : e = 0 ∨ e = 3 ∨ e = 4) (ha : a) (hb : b) : e = 0 ↔ c := by
  have h3 : e ≠ 3 := fun h1 => h.1.1 h1 ha
  constructor
  · intro h0
    exact Classical.byContradiction fun hc => by have := h.2.2 ⟨ha, fun h1 => hc h1.2⟩; omega
  · intro hc
    have h4 : e ≠ 4 := fun h1 => (h.2.1 h1).2 ⟨hb, hc⟩
    omega
theorem dec_not {p : Prop} [Decidable p] {s : Bool} (h : p ↔ ¬ s = true) : dec p = !s := by
  cases s
  · rw [dec_true (h.2 (by decide))]; rfl
  · rw [dec_false fun hp => h.1 hp rfl]; rfl

set_option maxHeartbeats 4000000 in
set_option maxRecDepth 100000 in
theorem SubspaceRefuses_ct {vs vu vt : Value} {ds rs cs du ru cu rt ct : Int} {ns nu nt : Nat} {fs fu ft : Nat → Rat} (hs : RawS U vs ds rs cs ns fs) (hu : RawS U vu du ru cu nu fu) (ht : Raw U vt rt ct nt ft) :
    Ct Tryz.prog 11 [vs, vu, vt] G U M fun v _ _ => v = .bool true := by
  have hs0 := hs
  have hu0 := hu
  have ht0 := ht
  obtain ⟨-, _, rfl, -, -, hns, _, he, pa, cca, asa, rfl, -⟩ := hs
  simp only [Value.agg.injEq, Array.mk.injEq, List.cons.injEq, and_true, true_and] at he
  subst he
  obtain ⟨-, _, rfl, -, -, hnu, _, he, pb, ccb, asb, rfl, -⟩ := hu
  simp only [Value.agg.injEq, Array.mk.injEq, List.cons.injEq, and_true, true_and] at he
  subst he
  obtain ⟨-, -, hnt, _, rfl, pt, cct, ast, rfl, -⟩ := ht
  refine ct_of_st Tryz.func11 rfl rfl rfl rfl ?_
  repeat (first | refine run_S ?_ | refine w_box (fun _ => ?_) | refine w_al (fun _ => ?_))
  rename_i b3 b4 b5
  refine sl_call rfl rfl rfl rfl rfl rfl (fun _ => awake10_ct) ?_
  rintro v1 U1 D1 hU1 ⟨rfl, -, rfl⟩
  try rw [List.nil_append]
  repeat (first | refine run_S ?_ | refine w_box (fun _ => ?_) | refine w_al (fun _ => ?_))
  refine sl_bslice (vs := [.agg #[.int .i64 rs, .int .i64 cs, .slice pa ns cca], .agg #[.int .i64 ru, .int .i64 cu, .slice pb nu ccb], .agg #[.int .i64 rt, .int .i64 ct, .slice pt nt cct]]) sym rfl rfl rfl rfl rfl rfl (all_size rfl) rfl rfl rfl rfl rfl rfl (fun bl => ?_)
  have hrl := (RowO.mk (e := TM) (s := 3) (b := bl) (n := 3) (vs := [.agg #[.int .i64 rs, .int .i64 cs, .slice pa ns cca], .agg #[.int .i64 ru, .int .i64 cu, .slice pb nu ccb], .agg #[.int .i64 rt, .int .i64 ct, .slice pt nt cct]]) rfl (all_size rfl) (by omega)).at (U := U1) (M := (bl, .arr [.agg #[.int .i64 rs, .int .i64 cs, .slice pa ns cca], .agg #[.int .i64 ru, .int .i64 cu, .slice pb nu ccb], .agg #[.int .i64 rt, .int .i64 ct, .slice pt nt cct]], TM) :: (b5, .var (.agg #[.int .i64 rt, .int .i64 ct, .slice pt nt cct]), TM) :: (b4, .var (.agg #[.int .i64 du, .int .i64 ru, .int .i64 cu, .slice pb nu ccb]), TS) :: (b3, .var (.agg #[.int .i64 ds, .int .i64 rs, .int .i64 cs, .slice pa ns cca]), TS) :: M) sb
  refine sl_call rfl rfl rfl rfl rfl rfl (fun _ => light10_ct (U := U1) (r := fun k => if k = 0 then rs else if k = 1 then ru else rt) (c := fun k => if k = 0 then cs else if k = 1 then cu else ct) (n := fun k => if k = 0 then ns else if k = 1 then nu else nt) (f := fun k => if k = 0 then fs else if k = 1 then fu else ft) (hrl.up uc sb) (three_rows (P := fun k v => Raw U1 v (if k = 0 then rs else if k = 1 then ru else rt) (if k = 0 then cs else if k = 1 then cu else ct) (if k = 0 then ns else if k = 1 then nu else nt) (if k = 0 then fs else if k = 1 then fu else ft)) (hs0.raw.up uc) (hu0.raw.up uc) (ht0.up uc)) (by decide)) ?_
  rintro v2 U2 D2 hU2 ⟨b, rfl, hl, rfl, rfl⟩
  try rw [List.nil_append]
  cases b
  · repeat (first | refine run_S ?_ | refine w_box (fun _ => ?_) | refine w_al (fun _ => ?_))
    exact sk_ret [] sym rfl (.cons (.tmp rfl) .nil) uc sb (.inl rfl) rfl
  have ls : LitS U1 (.agg #[.int .i64 ds, .int .i64 rs, .int .i64 cs, .slice pa ns cca]) ds rs cs ns fs := LitS.of (hl rfl 0 _ rfl)
  have lu : LitS U1 (.agg #[.int .i64 du, .int .i64 ru, .int .i64 cu, .slice pb nu ccb]) du ru cu nu fu := LitS.of (hl rfl 1 _ rfl)
  have lt : Lit 6 U1 (.agg #[.int .i64 rt, .int .i64 ct, .slice pt nt cct]) rt ct nt ft := hl rfl 2 _ rfl
  clear hl hrl hs0 hu0 ht0
  repeat (first | refine run_S ?_ | refine w_box (fun _ => ?_) | refine w_al (fun _ => ?_))
  refine sl_call rfl rfl rfl rfl rfl rfl (fun _ => sSum_e (ls.up uc) (lu.up uc)) ?_
  rintro v3 U3 D3 hU3 ⟨rfl, x, e1, rfl, ⟨d3, r3, c3, p3, n3, cc3, rfl⟩, he1⟩
  try rw [List.nil_append]
  repeat (first | refine run_S ?_ | refine w_box (fun _ => ?_) | refine w_al (fun _ => ?_))
  refine sl_call rfl rfl rfl rfl rfl rfl (fun _ => sIntersect_e (ls.up uc) (lu.up uc)) ?_
  rintro v4 U4 D4 hU4 ⟨rfl, x, e2, rfl, ⟨d4, r4, c4, p4, n4, cc4, rfl⟩, he2⟩
  try rw [List.nil_append]
  repeat (first | refine run_S ?_ | refine w_box (fun _ => ?_) | refine w_al (fun _ => ?_))
  refine sl_call rfl rfl rfl rfl rfl rfl (fun _ => sWithin_e (ls.up uc) (lu.up uc)) ?_
  rintro v5 U5 D5 hU5 ⟨rfl, x, e3, rfl, ⟨w, rfl⟩, he3⟩
  try rw [List.nil_append]
  repeat (first | refine run_O ?_ | refine w_box (fun _ => ?_) | refine w_al (fun _ => ?_))
  refine st_anti (M' := (b5, .var (.agg #[.int .i64 rt, .int .i64 ct, .slice pt nt cct]), TM) :: (b4, .var (.agg #[.int .i64 du, .int .i64 ru, .int .i64 cu, .slice pb nu ccb]), TS) :: (b3, .var (.agg #[.int .i64 ds, .int .i64 rs, .int .i64 cs, .slice pa ns cca]), TS) :: M) (ULe.refl _) sbk ?_
  refine st_seq ?_
  repeat (first | refine run_O ?_ | refine w_box (fun _ => ?_) | refine w_al (fun _ => ?_))
  refine st_seq_cut (fun E U' M' => ∃ (e : Int), PErr (VldS ds rs cs ns fs) (VldS du ru cu nu fu) ds du e ∧ E = [(13, .int .i64 e), (8, .int .i64 e1), (10, .int .i64 e2), (12, .int .i64 e3), (3, .pointer (some ⟨b3, 0, none⟩)), (4, .pointer (some ⟨b4, 0, none⟩)), (5, .pointer (some ⟨b5, 0, none⟩))] ∧ ULe U5 U' ∧ M' = (b5, .var (.agg #[.int .i64 rt, .int .i64 ct, .slice pt nt cct]), TM) :: (b4, .var (.agg #[.int .i64 du, .int .i64 ru, .int .i64 cu, .slice pb nu ccb]), TS) :: (b3, .var (.agg #[.int .i64 ds, .int .i64 rs, .int .i64 cs, .slice pa ns cca]), TS) :: M) ?_ ?_
  · repeat (first | refine run_S ?_ | refine w_box (fun _ => ?_) | refine w_al (fun _ => ?_))
    refine sl_call rfl rfl rfl rfl rfl rfl (fun _ => r10Valid_any (ls.up uc)) ?_
    rintro v6 U6 D6 hU6 ⟨rfl, s, rfl, hv1⟩
    try rw [List.nil_append]
    cases s
    · have hno : ¬ (VldS ds rs cs ns fs ∧ VldS du ru cu nu fu) := fun h => by have := hv1.2 h.1; cases this
      repeat (first | refine run_S ?_ | refine w_box (fun _ => ?_) | refine w_al (fun _ => ?_))
      exact sk_cut (E' := [(13, .int .i64 3), (8, .int .i64 e1), (10, .int .i64 e2), (12, .int .i64 e3), (3, .pointer (some ⟨b3, 0, none⟩)), (4, .pointer (some ⟨b4, 0, none⟩)), (5, .pointer (some ⟨b5, 0, none⟩))]) ⟨rfl, rfl, rfl, rfl, rfl, rfl, rfl, trivial⟩ ⟨3, ⟨.inr (.inl rfl), ⟨(fun h => by cases h), fun h => absurd h.1 hno⟩, fun _ => hno, fun _ => rfl⟩, rfl, uc, rfl⟩
    repeat (first | refine run_S ?_ | refine w_box (fun _ => ?_) | refine w_al (fun _ => ?_))
    refine sl_call rfl rfl rfl rfl rfl rfl (fun _ => r10Valid_any (lu.up uc)) ?_
    rintro v7 U7 D7 hU7 ⟨rfl, s, rfl, hv2⟩
    try rw [List.nil_append]
    cases s
    · have hno : ¬ (VldS ds rs cs ns fs ∧ VldS du ru cu nu fu) := fun h => by have := hv2.2 h.2; cases this
      repeat (first | refine run_S ?_ | refine w_box (fun _ => ?_) | refine w_al (fun _ => ?_))
      exact sk_cut (E' := [(13, .int .i64 3), (8, .int .i64 e1), (10, .int .i64 e2), (12, .int .i64 e3), (3, .pointer (some ⟨b3, 0, none⟩)), (4, .pointer (some ⟨b4, 0, none⟩)), (5, .pointer (some ⟨b5, 0, none⟩))]) ⟨rfl, rfl, rfl, rfl, rfl, rfl, rfl, trivial⟩ ⟨3, ⟨.inr (.inl rfl), ⟨(fun h => by cases h), fun h => absurd h.1 hno⟩, fun _ => hno, fun _ => rfl⟩, rfl, uc, rfl⟩
    have h1 := hv1.1 rfl
    have h2 := hv2.1 rfl
    repeat (first | refine run_S ?_ | refine w_box (fun _ => ?_) | refine w_al (fun _ => ?_))
    refine st_ne rfl (fun h3 => ?_) (fun h3 => ?_)
    · repeat (first | refine run_S ?_ | refine w_box (fun _ => ?_) | refine w_al (fun _ => ?_))
      exact sk_cut (E' := [(13, .int .i64 4), (8, .int .i64 e1), (10, .int .i64 e2), (12, .int .i64 e3), (3, .pointer (some ⟨b3, 0, none⟩)), (4, .pointer (some ⟨b4, 0, none⟩)), (5, .pointer (some ⟨b5, 0, none⟩))]) ⟨rfl, rfl, rfl, rfl, rfl, rfl, rfl, trivial⟩ ⟨4, ⟨.inr (.inr rfl), ⟨(fun h => by cases h), fun h => absurd h.2 h3⟩, (fun h => by cases h), fun h => absurd ⟨h1, h2⟩ h⟩, rfl, uc, rfl⟩
    · repeat (first | refine run_S ?_ | refine w_box (fun _ => ?_) | refine w_al (fun _ => ?_))
      exact sk_cut (E' := [(13, .int .i64 0), (8, .int .i64 e1), (10, .int .i64 e2), (12, .int .i64 e3), (3, .pointer (some ⟨b3, 0, none⟩)), (4, .pointer (some ⟨b4, 0, none⟩)), (5, .pointer (some ⟨b5, 0, none⟩))]) ⟨rfl, rfl, rfl, rfl, rfl, rfl, rfl, trivial⟩ ⟨0, PErr.ok h1 h2 (by omega), rfl, uc, rfl⟩
  rintro E U6 M' ⟨e, hpe, rfl, hU6, rfl⟩
  obtain rfl := he1.eq hpe
  obtain rfl := he2.eq hpe
  obtain rfl := he3.eq hpe
  clear he1 he2 he3 hpe
  repeat (first | refine run_S ?_ | refine w_box (fun _ => ?_) | refine w_al (fun _ => ?_))
  refine sl_gdec rfl rfl (fun h => absurd rfl h) (fun _ => ?_)
  repeat (first | refine run_S ?_ | refine w_box (fun _ => ?_) | refine w_al (fun _ => ?_))
  refine sl_gdec rfl rfl (fun h => absurd rfl h) (fun _ => ?_)
  repeat (first | refine run_S ?_ | refine w_box (fun _ => ?_) | refine w_al (fun _ => ?_))
  refine st_ne rfl (fun h => absurd rfl h) (fun _ => ?_)
  repeat (first | refine run_S ?_ | refine w_box (fun _ => ?_) | refine w_al (fun _ => ?_))
  refine sl_call rfl rfl rfl rfl rfl rfl (fun _ => sImage_e (ls.up uc) (lt.up uc)) ?_
  rintro v7 U7 D7 hU7 ⟨rfl, x, f1, rfl, ⟨d7, r7, c7, p7, n7, cc7, rfl⟩, hc1, hm1⟩
  try rw [List.nil_append]
  repeat (first | refine run_S ?_ | refine w_box (fun _ => ?_) | refine w_al (fun _ => ?_))
  refine sl_call rfl rfl rfl rfl rfl rfl (fun _ => sPreimage_e (ls.up uc) (lt.up uc)) ?_
  rintro v8 U8 D8 hU8 ⟨rfl, x, f2, rfl, ⟨d8, r8, c8, p8, n8, cc8, rfl⟩, hc2, hm2⟩
  try rw [List.nil_append]
  repeat (first | refine run_S ?_ | refine w_box (fun _ => ?_) | refine w_al (fun _ => ?_))
  refine sl_call rfl rfl rfl rfl rfl rfl (fun _ => sRestrict_e (ls.up uc) (lt.up uc)) ?_
  rintro v9 U9 D9 hU9 ⟨rfl, x, f3, rfl, ⟨r9, c9, p9, n9, cc9, rfl⟩, hm3⟩
  try rw [List.nil_append]
  repeat (first | refine run_S ?_ | refine w_box (fun _ => ?_) | refine w_al (fun _ => ?_))
  refine sl_call rfl rfl rfl rfl rfl rfl (fun _ => sQuotient_e (ls.up uc) (lt.up uc)) ?_
  rintro v10 U10 D10 hU10 ⟨rfl, x, f4, rfl, ⟨r10, c10, p10, n10, cc10, rfl⟩, hm4⟩
  try rw [List.nil_append]
  repeat (first | refine run_S ?_ | refine w_box (fun _ => ?_) | refine w_al (fun _ => ?_))
  refine sl_call rfl rfl rfl rfl rfl rfl (fun _ => sComplement_e (ls.up uc)) ?_
  rintro v11 U11 D11 hU11 ⟨rfl, x, f5, rfl, ⟨d11, r11, c11, p11, n11, cc11, rfl⟩, hc5, hm5⟩
  try rw [List.nil_append]
  repeat (first | refine run_S ?_ | refine w_box (fun _ => ?_) | refine w_al (fun _ => ?_))
  refine sl_call rfl rfl rfl rfl rfl rfl (fun _ => sAnnihilator_e (ls.up uc)) ?_
  rintro v12 U12 D12 hU12 ⟨rfl, x, f6, rfl, ⟨d12, r12, c12, p12, n12, cc12, rfl⟩, hc6, hm6⟩
  try rw [List.nil_append]
  repeat (first | refine run_S ?_ | refine w_box (fun _ => ?_) | refine w_al (fun _ => ?_))
  refine sl_call rfl rfl rfl rfl rfl rfl (fun _ => r10Valid_any (ls.up uc)) ?_
  rintro v13 U13 D13 hU13 ⟨rfl, s, rfl, hv⟩
  try rw [List.nil_append]
  cases s
  · have hno : ¬ VldS ds rs cs ns fs := fun h => by have := hv.2 h; cases this
    obtain rfl := hm1.1.2 hno
    obtain rfl := hm2.1.2 hno
    obtain rfl := hm3.1.2 hno
    obtain rfl := hm4.1.2 hno
    obtain rfl := hc5.resolve_left fun h => hno (hm5.1 h)
    obtain rfl := hc6.resolve_left fun h => hno (hm6.1 h)
    repeat (first | refine run_S ?_ | refine w_box (fun _ => ?_) | refine w_al (fun _ => ?_))
    refine sl_gdec rfl rfl (fun _ => ?_) (fun h => absurd rfl h)
    repeat (first | refine run_S ?_ | refine w_box (fun _ => ?_) | refine w_al (fun _ => ?_))
    refine sl_gdec rfl rfl (fun _ => ?_) (fun h => absurd rfl h)
    repeat (first | refine run_S ?_ | refine w_box (fun _ => ?_) | refine w_al (fun _ => ?_))
    refine sl_gdec rfl rfl (fun _ => ?_) (fun h => absurd rfl h)
    repeat (first | refine run_S ?_ | refine w_box (fun _ => ?_) | refine w_al (fun _ => ?_))
    refine sl_gdec rfl rfl (fun _ => ?_) (fun h => absurd rfl h)
    repeat (first | refine run_S ?_ | refine w_box (fun _ => ?_) | refine w_al (fun _ => ?_))
    refine sl_gdec rfl rfl (fun _ => ?_) (fun h => absurd rfl h)
    repeat (first | refine run_S ?_ | refine w_box (fun _ => ?_) | refine w_al (fun _ => ?_))
    rw [show dec ((3 : Int) = 3) = true from dec_true rfl]
    exact sk_ret [] sym rfl (.cons (.tmp rfl) .nil) uc sb (.inl rfl) rfl
  have hV := hv.1 rfl
  obtain rfl := hm5.2 hV
  obtain rfl := hm6.2 hV
  repeat (first | refine run_S ?_ | refine w_box (fun _ => ?_) | refine w_al (fun _ => ?_))
  refine sl_call rfl rfl rfl rfl rfl rfl (fun _ => m9Valid_ct (r := rt) (c := ct) (p := pt) (cc := cct) (n := nt) (by omega)) ?_
  rintro v14 U14 D14 hU14 ⟨rfl, rfl, rfl⟩
  try rw [List.nil_append]
  generalize hA : decide (Vld rt ct nt) = A
  have hA' : A = true ↔ Vld rt ct nt := by rw [← hA]; exact decide_eq_true_iff
  repeat (first | refine run_O ?_ | refine w_box (fun _ => ?_) | refine w_al (fun _ => ?_))
  refine st_anti (M' := (b5, .var (.agg #[.int .i64 rt, .int .i64 ct, .slice pt nt cct]), TM) :: (b4, .var (.agg #[.int .i64 du, .int .i64 ru, .int .i64 cu, .slice pb nu ccb]), TS) :: (b3, .var (.agg #[.int .i64 ds, .int .i64 rs, .int .i64 cs, .slice pa ns cca]), TS) :: M) (ULe.refl _) sbk ?_
  refine st_seq_cut (fun E U' M' => True ∧ E = [(26, .bool A), (19, .int .i64 f3), (21, .int .i64 f4), (23, .int .i64 0), (25, .int .i64 0), (3, .pointer (some ⟨b3, 0, none⟩)), (5, .pointer (some ⟨b5, 0, none⟩))] ∧ ULe U13 U' ∧ M' = (b5, .var (.agg #[.int .i64 rt, .int .i64 ct, .slice pt nt cct]), TM) :: (b4, .var (.agg #[.int .i64 du, .int .i64 ru, .int .i64 cu, .slice pb nu ccb]), TS) :: (b3, .var (.agg #[.int .i64 ds, .int .i64 rs, .int .i64 cs, .slice pa ns cca]), TS) :: M) ?_ ?_
  · cases A
    · have hno : ¬ Vld rt ct nt := fun h => by have := hA'.2 h; cases this
      obtain rfl := hm1.2.2 ⟨hV, fun h => hno h.1⟩
      obtain rfl := hm2.2.2 ⟨hV, fun h => hno h.1⟩
      repeat (first | refine run_S ?_ | refine w_box (fun _ => ?_) | refine w_al (fun _ => ?_))
      rw [show dec ((4 : Int) = 0) = false from dec_false (by decide)]
      repeat (first | refine run_S ?_ | refine w_box (fun _ => ?_) | refine w_al (fun _ => ?_))
      rw [show dec ((4 : Int) = 0) = false from dec_false (by decide)]
      repeat (first | refine run_S ?_ | refine w_box (fun _ => ?_) | refine w_al (fun _ => ?_))
      refine sl_gdec rfl rfl (fun _ => ?_) (fun h => absurd (by decide) h)
      repeat (first | refine run_S ?_ | refine w_box (fun _ => ?_) | refine w_al (fun _ => ?_))
      refine sl_gdec rfl rfl (fun h => absurd rfl h) (fun _ => ?_)
      repeat (first | refine run_S ?_ | refine w_box (fun _ => ?_) | refine w_al (fun _ => ?_))
      refine sl_gdec rfl rfl (fun _ => ?_) (fun h => absurd (by decide) h)
      repeat (first | refine run_S ?_ | refine w_box (fun _ => ?_) | refine w_al (fun _ => ?_))
      refine st_ne rfl (fun h => absurd rfl h) (fun _ => ?_)
      repeat (first | refine run_S ?_ | refine w_box (fun _ => ?_) | refine w_al (fun _ => ?_))
      exact sk_cut (E' := [(26, .bool false), (19, .int .i64 f3), (21, .int .i64 f4), (23, .int .i64 0), (25, .int .i64 0), (3, .pointer (some ⟨b3, 0, none⟩)), (5, .pointer (some ⟨b5, 0, none⟩))]) ⟨rfl, rfl, rfl, rfl, rfl, rfl, rfl, trivial⟩ ⟨trivial, rfl, uc, rfl⟩
    · have hVt := hA'.1 rfl
      have q1 := hm1.zero hc1 hV hVt
      have q2 := hm2.zero hc2 hV hVt
      have f13 : f1 ≠ 3 := fun h => hm1.1.1 h hV
      have f23 : f2 ≠ 3 := fun h => hm2.1.1 h hV
      repeat (first | refine run_S ?_ | refine w_box (fun _ => ?_) | refine w_al (fun _ => ?_))
      rw [dec_cong q1, neq_same]
      repeat (first | refine run_S ?_ | refine w_box (fun _ => ?_) | refine w_al (fun _ => ?_))
      rw [dec_cong q2, neq_same]
      repeat (first | refine run_S ?_ | refine w_box (fun _ => ?_) | refine w_al (fun _ => ?_))
      refine sl_gdec rfl rfl (fun h => ?_) (fun h => ?_)
      · repeat (first | refine run_S ?_ | refine w_box (fun _ => ?_) | refine w_al (fun _ => ?_))
        refine sl_gdec rfl rfl (fun h => absurd hc1 (by omega)) (fun _ => ?_)
        repeat (first | refine run_S ?_ | refine w_box (fun _ => ?_) | refine w_al (fun _ => ?_))
        refine sl_gdec rfl rfl (fun h => ?_) (fun h => ?_)
        · repeat (first | refine run_S ?_ | refine w_box (fun _ => ?_) | refine w_al (fun _ => ?_))
          refine st_ne rfl (fun h => absurd hc2 (by omega)) (fun _ => ?_)
          repeat (first | refine run_S ?_ | refine w_box (fun _ => ?_) | refine w_al (fun _ => ?_))
          exact sk_cut (E' := [(26, .bool true), (19, .int .i64 f3), (21, .int .i64 f4), (23, .int .i64 0), (25, .int .i64 0), (3, .pointer (some ⟨b3, 0, none⟩)), (5, .pointer (some ⟨b5, 0, none⟩))]) ⟨rfl, rfl, rfl, rfl, rfl, rfl, rfl, trivial⟩ ⟨trivial, rfl, uc, rfl⟩
        · repeat (first | refine run_S ?_ | refine w_box (fun _ => ?_) | refine w_al (fun _ => ?_))
          exact sk_cut (E' := [(26, .bool true), (19, .int .i64 f3), (21, .int .i64 f4), (23, .int .i64 0), (25, .int .i64 0), (3, .pointer (some ⟨b3, 0, none⟩)), (5, .pointer (some ⟨b5, 0, none⟩))]) ⟨rfl, rfl, rfl, rfl, rfl, rfl, rfl, trivial⟩ ⟨trivial, rfl, uc, rfl⟩
      · repeat (first | refine run_S ?_ | refine w_box (fun _ => ?_) | refine w_al (fun _ => ?_))
        refine sl_gdec rfl rfl (fun h => ?_) (fun h => ?_)
        · repeat (first | refine run_S ?_ | refine w_box (fun _ => ?_) | refine w_al (fun _ => ?_))
          refine st_ne rfl (fun h => absurd hc2 (by omega)) (fun _ => ?_)
          repeat (first | refine run_S ?_ | refine w_box (fun _ => ?_) | refine w_al (fun _ => ?_))
          exact sk_cut (E' := [(26, .bool true), (19, .int .i64 f3), (21, .int .i64 f4), (23, .int .i64 0), (25, .int .i64 0), (3, .pointer (some ⟨b3, 0, none⟩)), (5, .pointer (some ⟨b5, 0, none⟩))]) ⟨rfl, rfl, rfl, rfl, rfl, rfl, rfl, trivial⟩ ⟨trivial, rfl, uc, rfl⟩
        · repeat (first | refine run_S ?_ | refine w_box (fun _ => ?_) | refine w_al (fun _ => ?_))
          exact sk_cut (E' := [(26, .bool true), (19, .int .i64 f3), (21, .int .i64 f4), (23, .int .i64 0), (25, .int .i64 0), (3, .pointer (some ⟨b3, 0, none⟩)), (5, .pointer (some ⟨b5, 0, none⟩))]) ⟨rfl, rfl, rfl, rfl, rfl, rfl, rfl, trivial⟩ ⟨trivial, rfl, uc, rfl⟩
  rintro E U14 M' ⟨-, rfl, hU14, rfl⟩
  refine st_seq_cut (fun E U' M' => ∃ (s : Bool), (s = true ↔ Vld rt ct nt ∧ rt = ds ∧ ct = ds) ∧ E = [(27, .bool s), (19, .int .i64 f3), (21, .int .i64 f4), (23, .int .i64 0), (25, .int .i64 0)] ∧ ULe U14 U' ∧ M' = (b5, .var (.agg #[.int .i64 rt, .int .i64 ct, .slice pt nt cct]), TM) :: (b4, .var (.agg #[.int .i64 du, .int .i64 ru, .int .i64 cu, .slice pb nu ccb]), TS) :: (b3, .var (.agg #[.int .i64 ds, .int .i64 rs, .int .i64 cs, .slice pa ns cca]), TS) :: M) ?_ ?_
  · cases A
    · have hno : ¬ Vld rt ct nt := fun h => by have := hA'.2 h; cases this
      repeat (first | refine run_S ?_ | refine w_box (fun _ => ?_) | refine w_al (fun _ => ?_))
      exact sk_cut (E' := [(27, .bool false), (19, .int .i64 f3), (21, .int .i64 f4), (23, .int .i64 0), (25, .int .i64 0)]) ⟨rfl, rfl, rfl, rfl, rfl, trivial⟩ ⟨false, ⟨(fun h => by cases h), fun h => absurd h.1 hno⟩, rfl, uc, rfl⟩
    · have hVt := hA'.1 rfl
      repeat (first | refine run_S ?_ | refine w_box (fun _ => ?_) | refine w_al (fun _ => ?_))
      refine sl_gdec rfl rfl (fun h => ?_) (fun h => ?_)
      · repeat (first | refine run_S ?_ | refine w_box (fun _ => ?_) | refine w_al (fun _ => ?_))
        exact sk_cut (E' := [(27, .bool (dec (ct = ds))), (19, .int .i64 f3), (21, .int .i64 f4), (23, .int .i64 0), (25, .int .i64 0)]) ⟨rfl, rfl, rfl, rfl, rfl, trivial⟩ ⟨dec (ct = ds), ⟨fun h2 => ⟨hVt, h, of_dec h2⟩, fun h2 => dec_true h2.2.2⟩, rfl, uc, rfl⟩
      · repeat (first | refine run_S ?_ | refine w_box (fun _ => ?_) | refine w_al (fun _ => ?_))
        exact sk_cut (E' := [(27, .bool false), (19, .int .i64 f3), (21, .int .i64 f4), (23, .int .i64 0), (25, .int .i64 0)]) ⟨rfl, rfl, rfl, rfl, rfl, trivial⟩ ⟨false, ⟨(fun h => by cases h), fun h2 => absurd h2.2.1 h⟩, rfl, uc, rfl⟩
  rintro E U15 M' ⟨s, hs, rfl, hU15, rfl⟩
  repeat (first | refine run_S ?_ | refine w_box (fun _ => ?_) | refine w_al (fun _ => ?_))
  rw [dec_not (p := f3 = 4) (s := s) (hm3.2.trans ⟨fun h h2 => h.2 (hs.1 h2), fun h => ⟨hV, fun h2 => h (hs.2 h2)⟩⟩), beq_self_eq_true]
  repeat (first | refine run_S ?_ | refine w_box (fun _ => ?_) | refine w_al (fun _ => ?_))
  rw [dec_not (p := f4 = 4) (s := s) (hm4.2.trans ⟨fun h h2 => h.2 (hs.1 h2), fun h => ⟨hV, fun h2 => h (hs.2 h2)⟩⟩), beq_self_eq_true]
  repeat (first | refine run_S ?_ | refine w_box (fun _ => ?_) | refine w_al (fun _ => ?_))
  refine sl_gdec rfl rfl (fun _ => ?_) (fun h => absurd rfl h)
  repeat (first | refine run_S ?_ | refine w_box (fun _ => ?_) | refine w_al (fun _ => ?_))
  rw [show dec ((0 : Int) = 0) = true from dec_true rfl]
  exact sk_ret [] sym rfl (.cons (.tmp rfl) .nil) uc sb (.inl rfl) rfl

end Go.Proofs.YtocjmbilepbokaaGreat
