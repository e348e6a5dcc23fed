/- Texts of this seat's own, merged: each begins with its own remark. -/
import Derived.Test.YtocjmbilepbokaaGreatM38
/- Laws of layer 10: what is built. -/
namespace Go.Proofs.YtocjmbilepbokaaGreat
open Go.Hp
variable {G : World} {U U' : UH} {M M' : MH}

/-- The span of no rows. -/
theorem r10Of_nil {n : Nat} (hn : n ≤ 1000) :
    Ct Tryz.prog 34 [.int .i64 (n : Int), .slice none 0 0] G U M fun v U' D => Sv Vq 0 n U' v (fun _ _ => 0) ∧ D = [] := by
  have hg := gro_six (b := 1) (by decide)
  have hv : Ls (Vr n) 1 0 U M (.slice none 0 0) (fun (_ : Nat) (_ : Nat) => (0 : Rat)) := ⟨none, 0, [], rfl, Nat.le_refl 0, RowAt.nil, El.nil⟩
  refine ct_of_st Tryz.func34 rfl rfl rfl rfl ?_
  repeat (first | refine run_S ?_ | refine w_box (fun _ => ?_) | refine w_al (fun _ => ?_))
  rename_i b4
  refine sl_call rfl rfl rfl rfl rfl rfl (fun _ => m9Reduce_ctg (k := 1) (w0 := 6) (Ls.up (M' := _) hv kept_r uc sb) (fun i j hi => absurd hi (Nat.not_lt_zero i)) (Nat.le_refl 1) (.inl (by decide)) (by omega) (by omega) (by omega)) ?_
  rintro v1 U1 D1 hU1 ⟨r, R, p, vR, vp, rfl, hR, hp, rfl, hE, hS, hrm, hz⟩
  try rw [List.nil_append]
  obtain rfl : r = 0 := by
    rcases Nat.eq_zero_or_pos r with h | h
    · exact h
    · obtain ⟨c, hc⟩ := hS.lt 0 h
      have h1 := hc _ (hE.lt 0 h)
      rw [hE.one 0 0 h h, if_pos rfl] at h1
      exact absurd h1 La.one_ne
  obtain ⟨pR, cR, Rs, rfl, -⟩ := id hR
  obtain ⟨pp, cp, ps, rfl, -⟩ := id hp
  repeat (first | refine run_S ?_ | refine w_box (fun _ => ?_) | refine w_al (fun _ => ?_))
  refine sl_call rfl rfl rfl rfl rfl rfl (fun _ => ct_setm (m9Of_ct (b := La.gro 1 6) (Ls.toWr (hR.up kept_r uc (List.nil_sublist _)) hz) (by omega) (by omega) (by omega) (by omega))) ?_
  rintro vh2 Uh2 D hU ⟨h2, rfl⟩
  rw [List.nil_append]
  repeat (first | refine run_S ?_ | refine w_box (fun _ => ?_) | refine w_al (fun _ => ?_))
  obtain ⟨_, rfl, p2, c2, vs2, rfl, h3⟩ := id h2
  repeat (first | refine run_S ?_ | refine w_box (fun _ => ?_) | refine w_al (fun _ => ?_))
  refine sk_ret [] sym rfl (.cons (.cell 0 rfl rfl rfl) .nil) uc sb (.inl rfl) ?_
  exact ⟨h2.sv.congr fun i j hi => absurd hi (Nat.not_lt_zero i), rfl⟩

abbrev zeroS : Value := .agg #[.int .i64 0, .int .i64 0, .int .i64 0, .slice none 0 0]

theorem sSpan_any {va : Value} {r c : Int} {n : Nat} {f : Nat → Rat} (ha : Lit 6 U va r c n f) :
    Ct Tryz.prog 28 [va] G U M fun v U' D => ∃ (x : Value) (e : Int), v = .tuple #[x, .int .i64 e] ∧ SpF x ∧ ((¬ Vld r c n ∧ e = 4 ∧ x = zeroS) ∨ ∃ (R C k : Nat) (B S : Nat → Nat → Rat) (p : Nat → Nat), Vld r c n ∧ e = 0 ∧ R ≤ 6 ∧ C ≤ 6 ∧ Vm (Wq 1) R C U' va B ∧ Hw (1 * 37 + 1) R C B ∧ Sv Vq k C U' x S ∧ La.Ech k C S p ∧ La.Same k R C S B) ∧ D = [] := by
  by_cases hV : Vld r c n
  · obtain ⟨R, C, rfl, rfl, hR, hC, hm⟩ := ha.vm hV
    refine ⟨(sSpan_ct hm (Nat.le_refl 1) (by decide) (by omega) hC (G := G) (M := M)).callable, fun w hw => ((sSpan_ct hm (Nat.le_refl 1) (by decide) (by omega) hC).calls w hw).mono ?_⟩
    rintro e w' ⟨v, U1, D, h1, h2, h3, k, S, p, x, rfl, hS, hE, hs, hD⟩
    exact ⟨_, U1, D, h1, h2, h3, x, 0, rfl, hS.form, .inr ⟨R, C, k, _, S, p, hV, rfl, hR, hC, kept_m kept_w _ _ _ _ h2 hm, hw_short (a := 1) (fun i j hi hj => hm.sz (Nat.le_refl 1) hi hj) hR hC, hS, hE, hs⟩, hD⟩
  · exact (sSpan_no ha hV).mono fun _ _ _ _ ⟨h1, h2⟩ => ⟨_, 4, h1, ⟨_, _, _, _, _, _, rfl⟩, .inl ⟨hV, rfl, rfl⟩, h2⟩

theorem sWhole_any {n : Int} (h : n ≤ 30 ∨ 1024 < n) :
    Ct Tryz.prog 29 [.int .i64 n] G U M fun v U' D => ∃ (x : Value) (e : Int), v = .tuple #[x, .int .i64 e] ∧ SpF x ∧ (((n < 0 ∨ 1024 < n) ∧ e = 4 ∧ x = zeroS) ∨ ∃ k : Nat, n = (k : Int) ∧ k ≤ 30 ∧ e = 0 ∧ Sv Vq k k U' x La.idm) ∧ D = [] := by
  by_cases hV : 0 ≤ n ∧ n ≤ 1024
  · obtain ⟨k, rfl⟩ := Int.eq_ofNat_of_zero_le hV.1
    exact (sWhole_ct (n := k) (by omega)).mono fun _ _ _ _ ⟨x, h1, h2, h3⟩ => ⟨x, 0, h1, h2.form, .inr ⟨k, rfl, by omega, rfl, h2⟩, h3⟩
  · exact (sWhole_no hV).mono fun _ _ _ _ ⟨h1, h2⟩ => ⟨_, 4, h1, ⟨_, _, _, _, _, _, rfl⟩, .inl ⟨by omega, rfl, rfl⟩, h2⟩
theorem sZero_any {n : Int} (h : n ≤ 30 ∨ 1024 < n) :
    Ct Tryz.prog 30 [.int .i64 n] G U M fun v U' D => ∃ (x : Value) (e : Int), v = .tuple #[x, .int .i64 e] ∧ SpF x ∧ (((n < 0 ∨ 1024 < n) ∧ e = 4 ∧ x = zeroS) ∨ ∃ k : Nat, n = (k : Int) ∧ k ≤ 30 ∧ e = 0 ∧ Sv Vq 0 k U' x (fun _ _ => 0)) ∧ D = [] := by
  by_cases hV : 0 ≤ n ∧ n ≤ 1024
  · obtain ⟨k, rfl⟩ := Int.eq_ofNat_of_zero_le hV.1
    exact (sZero_ct (n := k) (by omega)).mono fun _ _ _ _ ⟨x, h1, h2, h3⟩ => ⟨x, 0, h1, h2.form, .inr ⟨k, rfl, by omega, rfl, h2⟩, h3⟩
  · exact (sZero_no hV).mono fun _ _ _ _ ⟨h1, h2⟩ => ⟨_, 4, h1, ⟨_, _, _, _, _, _, rfl⟩, .inl ⟨by omega, rfl, rfl⟩, h2⟩

end Go.Proofs.YtocjmbilepbokaaGreat

/- Laws of layer 10: what is built. -/
namespace Go.Proofs.YtocjmbilepbokaaGreat
open Go.Hp
variable {G : World} {U U' : UH} {M M' : MH}

set_option maxHeartbeats 2000000 in
set_option maxRecDepth 100000 in
theorem SubspaceBuilds_ct {va vs : Value} {ra ca ds rs cs n : Int} {na ns : Nat} {fa fs : Nat → Rat} (ha : Raw U va ra ca na fa) (hs : RawS U vs ds rs cs ns fs) (hn1 : -9223372036854775808 ≤ n) (hn2 : n ≤ 9223372036854775807) :
    Ct Tryz.prog 5 [va, vs, .int .i64 n] G U M fun v _ _ => v = .bool true := by
  have hs0 := hs
  have ha0 := ha
  obtain ⟨-, _, rfl, -, -, hns, _, he, ps, ccs, ass, rfl, -⟩ := hs
  simp only [Value.agg.injEq, Array.mk.injEq, List.cons.injEq, and_true, true_and] at he
  subst he
  obtain ⟨-, -, hna, _, rfl, pa, cca, asa, rfl, -⟩ := ha
  refine ct_of_st Tryz.func5 rfl rfl rfl rfl ?_
  repeat (first | refine run_S ?_ | refine w_box (fun _ => ?_) | refine w_al (fun _ => ?_))
  rename_i b3 b4
  refine sl_call rfl rfl rfl rfl rfl rfl (fun _ => awake10_ct) ?_
  rintro v1 U1 D1 hU1 ⟨rfl, -, rfl⟩
  try rw [List.nil_append]
  repeat (first | refine run_O ?_ | refine w_box (fun _ => ?_) | refine w_al (fun _ => ?_))
  refine st_anti (M' := (b4, .var (.agg #[.int .i64 ds, .int .i64 rs, .int .i64 cs, .slice ps ns ccs]), TS) :: (b3, .var (.agg #[.int .i64 ra, .int .i64 ca, .slice pa na cca]), TM) :: M) (ULe.refl _) sbk ?_
  refine st_seq_cut (fun E U' M' => (n ≤ 30 ∨ 1024 < n) ∧ Lit 6 U' (.agg #[.int .i64 ra, .int .i64 ca, .slice pa na cca]) ra ca na fa ∧ LitS U' (.agg #[.int .i64 ds, .int .i64 rs, .int .i64 cs, .slice ps ns ccs]) ds rs cs ns fs ∧ E = [(2, .int .i64 n), (3, .pointer (some ⟨b3, 0, none⟩)), (4, .pointer (some ⟨b4, 0, none⟩))] ∧ ULe U1 U' ∧ M' = (b4, .var (.agg #[.int .i64 ds, .int .i64 rs, .int .i64 cs, .slice ps ns ccs]), TS) :: (b3, .var (.agg #[.int .i64 ra, .int .i64 ca, .slice pa na cca]), TM) :: M) ?_ ?_
  · repeat (first | refine run_S ?_ | refine w_box (fun _ => ?_) | refine w_al (fun _ => ?_))
    refine sl_bslice (vs := [.agg #[.int .i64 ra, .int .i64 ca, .slice pa na cca], .agg #[.int .i64 rs, .int .i64 cs, .slice ps ns ccs]]) sym rfl rfl rfl rfl rfl rfl (all_size rfl) rfl rfl rfl rfl rfl rfl (fun bl => ?_)
    have hrl := (RowO.mk (e := TM) (s := 3) (b := bl) (n := 2) (vs := [.agg #[.int .i64 ra, .int .i64 ca, .slice pa na cca], .agg #[.int .i64 rs, .int .i64 cs, .slice ps ns ccs]]) rfl (all_size rfl) (by omega)).at (U := U1) (M := (bl, .arr [.agg #[.int .i64 ra, .int .i64 ca, .slice pa na cca], .agg #[.int .i64 rs, .int .i64 cs, .slice ps ns ccs]], TM) :: (b4, .var (.agg #[.int .i64 ds, .int .i64 rs, .int .i64 cs, .slice ps ns ccs]), TS) :: (b3, .var (.agg #[.int .i64 ra, .int .i64 ca, .slice pa na cca]), TM) :: M) sb
    refine sl_call rfl rfl rfl rfl rfl rfl (fun _ => light10_ct (U := U1) (r := fun k => if k = 0 then ra else rs) (c := fun k => if k = 0 then ca else cs) (n := fun k => if k = 0 then na else ns) (f := fun k => if k = 0 then fa else fs) (hrl.up uc sb) (two_rows (P := fun k v => Raw U1 v (if k = 0 then ra else rs) (if k = 0 then ca else cs) (if k = 0 then na else ns) (if k = 0 then fa else fs)) (ha0.up uc) (hs0.raw.up uc)) (by decide)) ?_
    rintro v2 U2 D2 hU2 ⟨b, rfl, hl, rfl, rfl⟩
    try rw [List.nil_append]
    cases b
    · repeat (first | refine run_S ?_ | refine w_box (fun _ => ?_) | refine w_al (fun _ => ?_))
      exact sk_ret [] sym rfl (.cons (.tmp rfl) .nil) uc sb (.inl rfl) rfl
    have la : Lit 6 U1 _ ra ca na fa := hl rfl 0 _ rfl
    have ls : LitS U1 (.agg #[.int .i64 ds, .int .i64 rs, .int .i64 cs, .slice ps ns ccs]) ds rs cs ns fs := LitS.of (hl rfl 1 _ rfl)
    repeat (first | refine run_S ?_ | refine w_box (fun _ => ?_) | refine w_al (fun _ => ?_))
    refine sl_gdec rfl rfl (fun h1 => ?_) (fun h1 => ?_)
    · repeat (first | refine run_S ?_ | refine w_box (fun _ => ?_) | refine w_al (fun _ => ?_))
      refine st_dec rfl (fun h2 => ?_) (fun h2 => ?_)
      · repeat (first | refine run_S ?_ | refine w_box (fun _ => ?_) | refine w_al (fun _ => ?_))
        exact sk_ret [] sym rfl (.cons (.tmp rfl) .nil) uc sb (.inl rfl) rfl
      · repeat (first | refine run_S ?_ | refine w_box (fun _ => ?_) | refine w_al (fun _ => ?_))
        refine sk_anti (M' := (b4, .var (.agg #[.int .i64 ds, .int .i64 rs, .int .i64 cs, .slice ps ns ccs]), TS) :: (b3, .var (.agg #[.int .i64 ra, .int .i64 ca, .slice pa na cca]), TM) :: M) (ULe.refl _) sbk ?_
        exact sk_cut (E' := [(2, .int .i64 n), (3, .pointer (some ⟨b3, 0, none⟩)), (4, .pointer (some ⟨b4, 0, none⟩))]) ⟨rfl, rfl, rfl, trivial⟩ ⟨.inr (by omega), la, ls, rfl, uc, rfl⟩
    · repeat (first | refine run_S ?_ | refine w_box (fun _ => ?_) | refine w_al (fun _ => ?_))
      refine sk_anti (M' := (b4, .var (.agg #[.int .i64 ds, .int .i64 rs, .int .i64 cs, .slice ps ns ccs]), TS) :: (b3, .var (.agg #[.int .i64 ra, .int .i64 ca, .slice pa na cca]), TM) :: M) (ULe.refl _) sbk ?_
      exact sk_cut (E' := [(2, .int .i64 n), (3, .pointer (some ⟨b3, 0, none⟩)), (4, .pointer (some ⟨b4, 0, none⟩))]) ⟨rfl, rfl, rfl, trivial⟩ ⟨.inl (by omega), la, ls, rfl, uc, rfl⟩
  rintro E U2 M' ⟨hn, la, ls, rfl, hU2, rfl⟩
  repeat (first | refine run_S ?_ | refine w_box (fun _ => ?_) | refine w_al (fun _ => ?_))
  refine sl_call rfl rfl rfl rfl rfl rfl (fun _ => sSpan_any (la.up uc)) ?_
  rintro v3 U3 D3 hU3 ⟨vx, e1, rfl, ⟨d3, r3, c3, p3, n3, cc3, rfl⟩, hx, rfl⟩
  try rw [List.nil_append]
  repeat (first | refine run_S ?_ | refine w_box (fun _ => ?_) | refine w_al (fun _ => ?_))
  rename_i b7
  refine sl_call rfl rfl rfl rfl rfl rfl (fun _ => sWhole_any hn) ?_
  rintro v4 U4 D4 hU4 ⟨vw, e2, rfl, ⟨d4, r4, c4, p4, n4, cc4, rfl⟩, hw, rfl⟩
  try rw [List.nil_append]
  repeat (first | refine run_S ?_ | refine w_box (fun _ => ?_) | refine w_al (fun _ => ?_))
  rename_i b9
  refine sl_call rfl rfl rfl rfl rfl rfl (fun _ => sZero_any hn) ?_
  rintro v5 U5 D5 hU5 ⟨vz, e3, rfl, ⟨d5, r5, c5, p5, n5, cc5, rfl⟩, hz, rfl⟩
  try rw [List.nil_append]
  repeat (first | refine run_O ?_ | refine w_box (fun _ => ?_) | refine w_al (fun _ => ?_))
  rename_i b11
  refine st_seq_cut (fun E U' M' => True ∧ E = [(2, .int .i64 n), (3, .pointer (some ⟨b3, 0, none⟩)), (4, .pointer (some ⟨b4, 0, none⟩)), (7, .pointer (some ⟨b7, 0, none⟩)), (8, .int .i64 e1), (9, .pointer (some ⟨b9, 0, none⟩)), (10, .int .i64 e2), (11, .pointer (some ⟨b11, 0, none⟩)), (12, .int .i64 e3)] ∧ ULe U5 U' ∧ M' = (b11, .var (.agg #[.int .i64 d5, .int .i64 r5, .int .i64 c5, .slice p5 n5 cc5]), TS) :: (b9, .var (.agg #[.int .i64 d4, .int .i64 r4, .int .i64 c4, .slice p4 n4 cc4]), TS) :: (b7, .var (.agg #[.int .i64 d3, .int .i64 r3, .int .i64 c3, .slice p3 n3 cc3]), TS) :: (b4, .var (.agg #[.int .i64 ds, .int .i64 rs, .int .i64 cs, .slice ps ns ccs]), TS) :: (b3, .var (.agg #[.int .i64 ra, .int .i64 ca, .slice pa na cca]), TM) :: M) ?_ ?_
  · repeat (first | refine run_S ?_ | refine w_box (fun _ => ?_) | refine w_al (fun _ => ?_))
    refine st_draw [0, 3, 1, 2, 4, 5, 6, 7, 8, 9, 10, 11, 12, 13, 14, 15] sym (by kernel_rfl) ?_
    repeat (first | refine run_S ?_ | refine w_box (fun _ => ?_) | refine w_al (fun _ => ?_))
    refine sl_call rfl rfl rfl rfl rfl rfl (fun _ => sCheck_any (ls.up uc)) ?_
    rintro v6 U6 D6 hU6 ⟨rfl, e4, rfl, he4, hv4⟩
    try rw [List.nil_append]
    repeat (first | refine run_S ?_ | refine w_box (fun _ => ?_) | refine w_al (fun _ => ?_))
    refine sl_call rfl rfl rfl rfl rfl rfl (fun _ => r10Valid_any (ls.up uc)) ?_
    rintro v7 U7 D7 hU7 ⟨rfl, s, rfl, hs7⟩
    try rw [List.nil_append]
    obtain rfl : dec (e4 = 0) = s := same_bool (show dec (e4 = 0) = true ↔ VldS ds rs cs ns fs from ⟨fun h => hv4.1 (of_dec h), fun h => dec_true (hv4.2 h)⟩) hs7
    repeat (first | refine run_O ?_ | refine w_box (fun _ => ?_) | refine w_al (fun _ => ?_))
    rw [neq_same]
    repeat (first | refine run_S ?_ | refine w_box (fun _ => ?_) | refine w_al (fun _ => ?_))
    refine sl_call rfl rfl rfl rfl rfl rfl (fun _ => sCheck_any (ls.up uc)) ?_
    rintro v8 U8 D8 hU8 ⟨rfl, e5, rfl, he5, hv5⟩
    try rw [List.nil_append]
    repeat (first | refine run_S ?_ | refine w_box (fun _ => ?_) | refine w_al (fun _ => ?_))
    refine sl_gdec rfl rfl (fun h1 => ?_) (fun h1 => ?_)
    · repeat (first | refine run_S ?_ | refine w_box (fun _ => ?_) | refine w_al (fun _ => ?_))
      refine sl_call rfl rfl rfl rfl rfl rfl (fun _ => sCheck_any (ls.up uc)) ?_
      rintro v9 U9 D9 hU9 ⟨rfl, e6, rfl, he6, hv6⟩
      try rw [List.nil_append]
      have e63 : e6 = 3 := he6.resolve_left fun h => h1 (hv5.2 (hv6.1 h))
      repeat (first | refine run_S ?_ | refine w_box (fun _ => ?_) | refine w_al (fun _ => ?_))
      refine st_ne rfl (fun h2 => absurd e63 h2) (fun _ => ?_)
      repeat (first | refine run_S ?_ | refine w_box (fun _ => ?_) | refine w_al (fun _ => ?_))
      exact sk_cut (E' := [(2, .int .i64 n), (3, .pointer (some ⟨b3, 0, none⟩)), (4, .pointer (some ⟨b4, 0, none⟩)), (7, .pointer (some ⟨b7, 0, none⟩)), (8, .int .i64 e1), (9, .pointer (some ⟨b9, 0, none⟩)), (10, .int .i64 e2), (11, .pointer (some ⟨b11, 0, none⟩)), (12, .int .i64 e3)]) ⟨rfl, rfl, rfl, rfl, rfl, rfl, rfl, rfl, rfl, trivial⟩ ⟨trivial, rfl, uc, rfl⟩
    · repeat (first | refine run_S ?_ | refine w_box (fun _ => ?_) | refine w_al (fun _ => ?_))
      exact sk_cut (E' := [(2, .int .i64 n), (3, .pointer (some ⟨b3, 0, none⟩)), (4, .pointer (some ⟨b4, 0, none⟩)), (7, .pointer (some ⟨b7, 0, none⟩)), (8, .int .i64 e1), (9, .pointer (some ⟨b9, 0, none⟩)), (10, .int .i64 e2), (11, .pointer (some ⟨b11, 0, none⟩)), (12, .int .i64 e3)]) ⟨rfl, rfl, rfl, rfl, rfl, rfl, rfl, rfl, rfl, trivial⟩ ⟨trivial, rfl, uc, rfl⟩
  rintro E U6 M' ⟨-, rfl, hU6, rfl⟩
  refine st_seq_cut (fun E U' M' => True ∧ E = [(3, .pointer (some ⟨b3, 0, none⟩)), (4, .pointer (some ⟨b4, 0, none⟩)), (7, .pointer (some ⟨b7, 0, none⟩)), (8, .int .i64 e1)] ∧ ULe U6 U' ∧ M' = (b11, .var (.agg #[.int .i64 d5, .int .i64 r5, .int .i64 c5, .slice p5 n5 cc5]), TS) :: (b9, .var (.agg #[.int .i64 d4, .int .i64 r4, .int .i64 c4, .slice p4 n4 cc4]), TS) :: (b7, .var (.agg #[.int .i64 d3, .int .i64 r3, .int .i64 c3, .slice p3 n3 cc3]), TS) :: (b4, .var (.agg #[.int .i64 ds, .int .i64 rs, .int .i64 cs, .slice ps ns ccs]), TS) :: (b3, .var (.agg #[.int .i64 ra, .int .i64 ca, .slice pa na cca]), TM) :: M) ?_ ?_
  · repeat (first | refine run_S ?_ | refine w_box (fun _ => ?_) | refine w_al (fun _ => ?_))
    rcases hw with ⟨hneg, rfl, hw⟩ | ⟨k, rfl, hk, rfl, hW⟩
    · rcases hz with ⟨-, rfl, hz⟩ | ⟨k, rfl, hk, -⟩
      case inr => exact absurd hneg (by omega)
      obtain ⟨rfl, rfl, rfl, rfl, rfl, rfl⟩ : d4 = 0 ∧ r4 = 0 ∧ c4 = 0 ∧ p4 = none ∧ n4 = 0 ∧ cc4 = 0 := by
        simpa only [zeroS, Value.agg.injEq, Array.mk.injEq, List.cons.injEq, Value.int.injEq, Value.slice.injEq, true_and, and_true, and_assoc] using hw
      obtain ⟨rfl, rfl, rfl, rfl, rfl, rfl⟩ : d5 = 0 ∧ r5 = 0 ∧ c5 = 0 ∧ p5 = none ∧ n5 = 0 ∧ cc5 = 0 := by
        simpa only [zeroS, Value.agg.injEq, Array.mk.injEq, List.cons.injEq, Value.int.injEq, Value.slice.injEq, true_and, and_true, and_assoc] using hz
      refine sl_gdec rfl rfl (fun h => ?_) (fun h => ?_)
      · repeat (first | refine run_S ?_ | refine w_box (fun _ => ?_) | refine w_al (fun _ => ?_))
        refine sl_gdec rfl rfl (fun h => absurd rfl h) (fun _ => ?_)
        repeat (first | refine run_S ?_ | refine w_box (fun _ => ?_) | refine w_al (fun _ => ?_))
        refine sl_gdec rfl rfl (fun h => absurd rfl h) (fun _ => ?_)
        repeat (first | refine run_S ?_ | refine w_box (fun _ => ?_) | refine w_al (fun _ => ?_))
        refine sl_call rfl rfl rfl rfl rfl rfl (fun _ => none10_ct) ?_
        rintro v6 U6 D6 hU6 ⟨rfl, rfl, rfl⟩
        try rw [List.nil_append]
        repeat (first | refine run_S ?_ | refine w_box (fun _ => ?_) | refine w_al (fun _ => ?_))
        refine sl_call rfl rfl rfl rfl rfl rfl (fun _ => none10_ct) ?_
        rintro v7 U7 D7 hU7 ⟨rfl, rfl, rfl⟩
        try rw [List.nil_append]
        repeat (first | refine run_S ?_ | refine w_box (fun _ => ?_) | refine w_al (fun _ => ?_))
        exact sk_cut (E' := [(3, .pointer (some ⟨b3, 0, none⟩)), (4, .pointer (some ⟨b4, 0, none⟩)), (7, .pointer (some ⟨b7, 0, none⟩)), (8, .int .i64 e1)]) ⟨rfl, rfl, rfl, rfl, trivial⟩ ⟨trivial, rfl, uc, rfl⟩
      · repeat (first | refine run_S ?_ | refine w_box (fun _ => ?_) | refine w_al (fun _ => ?_))
        refine st_dec rfl (fun h2 => ?_) (fun h2 => absurd hneg (by omega))
        repeat (first | refine run_S ?_ | refine w_box (fun _ => ?_) | refine w_al (fun _ => ?_))
        refine sl_gdec rfl rfl (fun h => absurd rfl h) (fun _ => ?_)
        repeat (first | refine run_S ?_ | refine w_box (fun _ => ?_) | refine w_al (fun _ => ?_))
        refine sl_gdec rfl rfl (fun h => absurd rfl h) (fun _ => ?_)
        repeat (first | refine run_S ?_ | refine w_box (fun _ => ?_) | refine w_al (fun _ => ?_))
        refine sl_call rfl rfl rfl rfl rfl rfl (fun _ => none10_ct) ?_
        rintro v6 U6 D6 hU6 ⟨rfl, rfl, rfl⟩
        try rw [List.nil_append]
        repeat (first | refine run_S ?_ | refine w_box (fun _ => ?_) | refine w_al (fun _ => ?_))
        refine sl_call rfl rfl rfl rfl rfl rfl (fun _ => none10_ct) ?_
        rintro v7 U7 D7 hU7 ⟨rfl, rfl, rfl⟩
        try rw [List.nil_append]
        repeat (first | refine run_S ?_ | refine w_box (fun _ => ?_) | refine w_al (fun _ => ?_))
        exact sk_cut (E' := [(3, .pointer (some ⟨b3, 0, none⟩)), (4, .pointer (some ⟨b4, 0, none⟩)), (7, .pointer (some ⟨b7, 0, none⟩)), (8, .int .i64 e1)]) ⟨rfl, rfl, rfl, rfl, trivial⟩ ⟨trivial, rfl, uc, rfl⟩
    · rcases hz with ⟨hneg, -⟩ | ⟨k', hkk, -, rfl, hZ⟩
      · exact absurd hneg (by omega)
      obtain rfl : k = k' := by omega
      have hkk : k * k ≤ 30 * 30 := Nat.mul_le_mul hk hk
      refine sl_gdec rfl rfl (fun h => absurd h (by omega)) (fun _ => ?_)
      repeat (first | refine run_S ?_ | refine w_box (fun _ => ?_) | refine w_al (fun _ => ?_))
      refine st_dec rfl (fun h => absurd h (by omega)) (fun _ => ?_)
      repeat (first | refine run_S ?_ | refine w_box (fun _ => ?_) | refine w_al (fun _ => ?_))
      refine st_draw [0, 1, 2, 3, 4, 5, 6, 7, 8, 9, 10, 11, 12, 13, 14, 15, 16, 17, 18, 19] sym (by kernel_rfl) ?_
      repeat (first | refine run_S ?_ | refine w_box (fun _ => ?_) | refine w_al (fun _ => ?_))
      refine sl_gdec rfl rfl (fun h => absurd rfl h) (fun _ => ?_)
      repeat (first | refine run_S ?_ | refine w_box (fun _ => ?_) | refine w_al (fun _ => ?_))
      refine sl_gdec rfl rfl (fun h => absurd rfl h) (fun _ => ?_)
      repeat (first | refine run_S ?_ | refine w_box (fun _ => ?_) | refine w_al (fun _ => ?_))
      refine sl_call rfl rfl rfl rfl rfl rfl (fun _ => r10Whole_ct (n := k) (by omega)) ?_
      rintro v9 U9 D9 hU9 ⟨h9, rfl⟩
      try rw [List.nil_append]
      refine sl_call rfl rfl rfl rfl rfl rfl (fun _ => bSameSpace_ct (kept_s kept_q _ _ _ _ uc hW) (kept_s kept_q _ _ _ _ uc h9) (by omega) (by omega)) ?_
      rintro v10 U10 D10 hU10 ⟨b, rfl, hb, rfl, rfl⟩
      try rw [List.nil_append]
      obtain rfl := hb.2 ⟨rfl, rfl, fun _ _ _ _ => rfl⟩
      repeat (first | refine run_S ?_ | refine w_box (fun _ => ?_) | refine w_al (fun _ => ?_))
      refine sl_call rfl rfl rfl rfl rfl rfl (fun _ => r10Of_nil (n := k) (by omega)) ?_
      rintro v11 U11 D11 hU11 ⟨h11, rfl⟩
      try rw [List.nil_append]
      refine sl_call rfl rfl rfl rfl rfl rfl (fun _ => bSameSpace_ct (kept_s kept_q _ _ _ _ uc hZ) (kept_s kept_q _ _ _ _ uc h11) (by omega) (by omega)) ?_
      rintro v12 U12 D12 hU12 ⟨b, rfl, hb, rfl, rfl⟩
      try rw [List.nil_append]
      obtain rfl := hb.2 ⟨rfl, rfl, fun _ _ _ _ => rfl⟩
      repeat (first | refine run_S ?_ | refine w_box (fun _ => ?_) | refine w_al (fun _ => ?_))
      exact sk_cut (E' := [(3, .pointer (some ⟨b3, 0, none⟩)), (4, .pointer (some ⟨b4, 0, none⟩)), (7, .pointer (some ⟨b7, 0, none⟩)), (8, .int .i64 e1)]) ⟨rfl, rfl, rfl, rfl, trivial⟩ ⟨trivial, rfl, uc, rfl⟩
  rintro E U7 M' ⟨-, rfl, hU7, rfl⟩
  clear hw hz
  repeat (first | refine run_S ?_ | refine w_box (fun _ => ?_) | refine w_al (fun _ => ?_))
  refine sl_call rfl rfl rfl rfl rfl rfl (fun _ => m9Valid_ct (r := ra) (c := ca) (p := pa) (cc := cca) (n := na) (by omega)) ?_
  rintro v U' D hU ⟨rfl, rfl, rfl⟩
  repeat (first | refine run_S ?_ | refine w_box (fun _ => ?_) | refine w_al (fun _ => ?_))
  rcases hx with ⟨hV, rfl, hx⟩ | ⟨R, C, k, B, S, p, hV, rfl, hR, hC, hm, wB, hS, eS, mS⟩
  · obtain ⟨rfl, rfl, rfl, rfl, rfl, rfl⟩ : d3 = 0 ∧ r3 = 0 ∧ c3 = 0 ∧ p3 = none ∧ n3 = 0 ∧ cc3 = 0 := by
      simpa only [zeroS, Value.agg.injEq, Array.mk.injEq, List.cons.injEq, Value.int.injEq, Value.slice.injEq, true_and, and_true, and_assoc] using hx
    rw [decide_eq_false hV]
    repeat (first | refine run_S ?_ | refine w_box (fun _ => ?_) | refine w_al (fun _ => ?_))
    refine sl_gdec rfl rfl (fun _ => ?_) (fun h => absurd rfl h)
    repeat (first | refine run_S ?_ | refine w_box (fun _ => ?_) | refine w_al (fun _ => ?_))
    refine sl_call rfl rfl rfl rfl rfl rfl (fun _ => none10_ct) ?_
    rintro v6 U6 D6 hU6 ⟨rfl, rfl, rfl⟩
    try rw [List.nil_append]
    repeat (first | refine run_S ?_ | refine w_box (fun _ => ?_) | refine w_al (fun _ => ?_))
    exact sk_ret [] sym rfl (.cons (.tmp rfl) .nil) uc sb (.inl rfl) rfl
  · rw [decide_eq_true hV]
    have wS := ((Gw.same wB.gen mS).hw eS hC).mono (show 6 * (1 * 37 + 1) + 1 ≤ 229 by decide)
    have hkC : k * C ≤ 6 * 6 := Nat.mul_le_mul (Nat.le_trans eS.le_n hC) hC
    repeat (first | refine run_S ?_ | refine w_box (fun _ => ?_) | refine w_al (fun _ => ?_))
    refine st_draw [0, 1, 2, 3, 4, 5, 6, 7, 8, 9, 10, 11, 12, 13] sym (by kernel_rfl) ?_
    repeat (first | refine run_S ?_ | refine w_box (fun _ => ?_) | refine w_al (fun _ => ?_))
    refine sl_gdec rfl rfl (fun _ => ?_) (fun h => absurd rfl h)
    repeat (first | refine run_S ?_ | refine w_box (fun _ => ?_) | refine w_al (fun _ => ?_))
    refine sl_call rfl rfl rfl rfl rfl rfl (fun _ => r10Span_ct (b := 1) (kept_m kept_w _ _ _ _ uc hm) (Nat.le_refl 1) (by decide) hC (by omega)) ?_
    rintro v6 U6 D6 hU6 ⟨l, Q, q, hQ, eQ, mQ, rfl⟩
    try rw [List.nil_append]
    have hlC : l * C ≤ 6 * 6 := Nat.mul_le_mul (Nat.le_trans eQ.le_n hC) hC
    refine sl_call rfl rfl rfl rfl rfl rfl (fun _ => bSameSpace_ct (kept_s kept_q _ _ _ _ uc hS) (kept_s kept_q _ _ _ _ uc hQ) (by omega) (by omega)) ?_
    rintro v7 U7 D7 hU7 ⟨b, rfl, hb, rfl, rfl⟩
    try rw [List.nil_append]
    obtain rfl := hb.2 (same_spans eS eQ fun v => mS.sp.trans mQ.sp.symm)
    repeat (first | refine run_S ?_ | refine w_box (fun _ => ?_) | refine w_al (fun _ => ?_))
    refine sl_call rfl rfl rfl rfl rfl rfl (fun _ => sCheck_ok (b := 229) ((kept_s kept_q _ _ _ _ uc hS).w fun i j hi hj => wS.szq (by decide) hi hj) eS (by decide) (by decide) hC) ?_
    rintro v8 U8 D8 hU8 ⟨rfl, rfl⟩
    try rw [List.nil_append]
    repeat (first | refine run_S ?_ | refine w_box (fun _ => ?_) | refine w_al (fun _ => ?_))
    rw [show dec ((0 : Int) = 0) = true from dec_true rfl]
    exact sk_ret [] sym rfl (.cons (.tmp rfl) .nil) uc sb (.inl rfl) rfl

end Go.Proofs.YtocjmbilepbokaaGreat
