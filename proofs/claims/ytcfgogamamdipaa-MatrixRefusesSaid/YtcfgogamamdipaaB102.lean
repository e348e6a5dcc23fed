/- Walks of the helpers of layer 9's statements: awake. -/
import Derived.Test.YtcfgogamamdipaaB99
import Derived.Test.YtcfgogamamdipaaM23
namespace Go.Proofs.Ytcfgogamamdipaa
open Go.Hp
variable {G : World} {U U' : UH} {M M' : MH}

theorem all_size {s : Nat} {vs : List Value} (h : vs.all (fun v => Nat.beq v.cells.toList.length s) = true) : ∀ v ∈ vs, v.cells.toList.length = s := fun v hv => Nat.eq_of_beq_eq_true (List.all_eq_true.1 h v hv)

theorem lit_row {b e n : Nat} {l : List Int} (hr : ∀ z ∈ l, -9223372036854775808 ≤ z ∧ z ≤ 9223372036854775807) (hn : l.length = n) (hn2 : n ≤ 1000) (hM : [(b, .arr (l.map fun z => .int .i64 z), e)].Sublist M) : Ls Vz 1 n U M (.slice (some ⟨b, 0, none⟩) n n) (fun j => l.getD j 0) := by
  refine ⟨_, _, l.map fun z => .int .i64 z, rfl, Nat.le_refl n, (RowO.mk (e := e) (b := b) (by rw [List.length_map, hn]) (fun v hv => ?_) (by omega)).at hM, fun k x hk => ?_⟩
  · obtain ⟨z, -, rfl⟩ := List.mem_map.1 hv; rfl
  · rw [List.getElem?_map] at hk
    obtain ⟨z, hz, rfl⟩ := Option.map_eq_some_iff.1 hk
    have := hr z (List.mem_of_getElem? hz)
    simp only [List.getD_eq_getElem?_getD, hz, Option.getD_some]
    exact ⟨rfl, this⟩
theorem lit_rows {b e n r : Nat} {ls : List (List Int)} {vs : List Value} (hl : vs.length = r) (hr : r ≤ 1000) (hv : ∀ k v, vs[k]? = some v → Ls Vz 1 n U M v (fun j => (ls.getD k []).getD j 0)) (hM : [(b, .arr vs, e)].Sublist M) :
    Lz r n U M (.slice (some ⟨b, 0, none⟩) r r) (fun i j => (ls.getD i []).getD j 0) := by
  refine ⟨_, _, vs, rfl, Nat.le_refl r, (RowO.mk (e := e) (b := b) hl (fun v hv' => ?_) (by omega)).at hM, fun k x hk => hv k x hk⟩
  obtain ⟨k, hk⟩ := List.mem_iff_getElem?.1 hv'
  obtain ⟨p, c, us, rfl, -⟩ := hv k v hk
  rfl
theorem szq_small {z : Int} (h : z.natAbs < 4294967296) : Szq (z : Rat) 1 := ⟨by show z.natAbs < 4294967296 ^ 1; omega, szq_int1.1⟩
theorem two_rows {α : Type} {P : Nat → α → Prop} {a b : α} (h0 : P 0 a) (h1 : P 1 b) : ∀ k v, [a, b][k]? = some v → P k v
  | 0, v, h => by cases h; exact h0
  | 1, v, h => by cases h; exact h1
  | k + 2, v, h => by simp at h

abbrev zz (ls : List (List Int)) : Nat → Nat → Rat := fun i j => (((ls.getD i []).getD j 0 : Int) : Rat)
theorem zz_sz {ls : List (List Int)} (h : ∀ l ∈ ls, ∀ z ∈ l, z.natAbs < 4294967296) (i j : Nat) : Szq (zz ls i j) 1 := by
  refine szq_small ?_
  simp only [List.getD_eq_getElem?_getD]
  cases h1 : ls[i]? with
  | none => simp
  | some l =>
    simp only [Option.getD_some]
    cases h2 : l[j]? with
    | none => simp
    | some z => exact h l (List.mem_of_getElem? h1) z (List.mem_of_getElem? h2)

theorem awake_ech {r : Nat} {R : Nat → Nat → Rat} {p : Nat → Nat} (h : EchOf 2 3 r (zz [[2, 4, 6], [1, 2, 4]]) R p) : r = 2 ∧ (∀ i j, i < 2 → j < 3 → R i j = zz [[1, 2, 0], [0, 0, 1]] i j) ∧ p 0 = 0 ∧ p 1 = 2 := by
  have e0 : La.Ech 2 3 (zz [[1, 2, 0], [0, 0, 1]]) (fun i => if i = 0 then 0 else 2) := by
    refine ⟨fun i hi => ?_, fun i k hik hk => ?_, fun i k hi hk => ?_, fun i j hi hj => ?_⟩
    · split <;> omega
    · rw [if_pos (by omega), if_neg (by omega)]; omega
    · rcases show i = 0 ∨ i = 1 by omega with rfl | rfl <;> rcases show k = 0 ∨ k = 1 by omega with rfl | rfl <;> rfl
    · rcases show i = 0 ∨ i = 1 by omega with rfl | rfl
      · simp at hj
      · rcases show j = 0 ∨ j = 1 by (simp at hj; omega) with rfl | rfl <;> rfl
  have e1 : La.Same 2 2 3 (zz [[1, 2, 0], [0, 0, 1]]) (zz [[2, 4, 6], [1, 2, 4]]) := by
    refine ⟨fun i hi => ?_, fun i hi => ?_⟩
    · rcases show i = 0 ∨ i = 1 by omega with rfl | rfl
      · refine ⟨fun k => if k = 0 then 2 else -3, fun j hj => ?_⟩
        rcases show j = 0 ∨ j = 1 ∨ j = 2 by omega with rfl | rfl | rfl <;> exact of_decide_eq_true (by kernel_rfl)
      · refine ⟨fun k => if k = 0 then Rat.divInt (-1) 2 else 1, fun j hj => ?_⟩
        rcases show j = 0 ∨ j = 1 ∨ j = 2 by omega with rfl | rfl | rfl <;> exact of_decide_eq_true (by kernel_rfl)
    · rcases show i = 0 ∨ i = 1 by omega with rfl | rfl
      · refine ⟨fun k => if k = 0 then 2 else 6, fun j hj => ?_⟩
        rcases show j = 0 ∨ j = 1 ∨ j = 2 by omega with rfl | rfl | rfl <;> exact of_decide_eq_true (by kernel_rfl)
      · refine ⟨fun k => if k = 0 then 1 else 4, fun j hj => ?_⟩
        rcases show j = 0 ∨ j = 1 ∨ j = 2 by omega with rfl | rfl | rfl <;> exact of_decide_eq_true (by kernel_rfl)
  obtain ⟨h1, h2, h3⟩ := e0.unique h.ech (e1.trans h.same.symm)
  subst h1
  exact ⟨rfl, fun i j hi hj => (h3 i j hi hj).symm, (h2 0 (by omega)).symm, (h2 1 (by omega)).symm⟩
theorem awake_det : La.det 2 (zz [[0, 1], [1, 0]]) = ((-1 : Int) : Rat) := of_decide_eq_true (by kernel_rfl)

set_option maxRecDepth 100000 in
theorem awake9_ct : Ct Try.prog 5 [] G U M fun v U' D => v = .bool true ∧ ULe U U' ∧ D = [] := by
  have g1 : La.gro 1 2 = 36 := rfl
  have small : ∀ ls : List (List Int), (ls.all fun l => l.all fun z => decide (z.natAbs < 4294967296)) = true → ∀ l ∈ ls, ∀ z ∈ l, z.natAbs < 4294967296 := fun ls h l hl z hz => of_decide_eq_true (List.all_eq_true.1 (List.all_eq_true.1 h l hl) z hz)
  have rng : ∀ l : List Int, (l.all fun z => decide (-9223372036854775808 ≤ z ∧ z ≤ 9223372036854775807)) = true → ∀ z ∈ l, -9223372036854775808 ≤ z ∧ z ≤ 9223372036854775807 := fun l h z hz => of_decide_eq_true (List.all_eq_true.1 h z hz)
  refine ct_of_st Try.func5 rfl rfl rfl rfl ?_
  repeat (first | refine run_S ?_ | refine w_box (fun _ => ?_) | refine w_al (fun _ => ?_))
  refine sl_bslice (vs := [.int .i64 2, .int .i64 4, .int .i64 6]) sym rfl rfl rfl rfl rfl rfl (all_size rfl) rfl rfl rfl rfl rfl rfl (fun b7 => ?_)
  refine sl_bslice (vs := [.int .i64 1, .int .i64 2, .int .i64 4]) sym rfl rfl rfl rfl rfl rfl (all_size rfl) rfl rfl rfl rfl rfl rfl (fun b8 => ?_)
  refine sl_bslice (vs := [.slice (some ⟨b7, 0, none⟩) 3 3, .slice (some ⟨b8, 0, none⟩) 3 3]) sym rfl rfl rfl rfl rfl rfl (all_size rfl) rfl rfl rfl rfl rfl rfl (fun b9 => ?_)
  refine sl_call rfl rfl rfl rfl rfl rfl (fun _ => ct_setm (bRows_ct (r := 2) (c := 3) (lit_rows (ls := [[2, 4, 6], [1, 2, 4]]) rfl (by decide) (two_rows (lit_row (l := [2, 4, 6]) (e := TInt) (rng _ rfl) rfl (by decide) sb) (lit_row (l := [1, 2, 4]) (e := TInt) (rng _ rfl) rfl (by decide) sb)) sb) (by decide) (by decide) (by decide))) ?_
  rintro vh1 Uh1 D hU ⟨h1, rfl⟩
  rw [List.nil_append]
  repeat (first | refine run_S ?_ | refine w_box (fun _ => ?_) | refine w_al (fun _ => ?_))
  refine sl_call rfl rfl rfl rfl rfl rfl (fun _ => mEchelon_ct (b := 1) (h1.w fun i j _ _ => zz_sz (small _ rfl) i j) (by decide) (by rw [g1]; decide) (by rw [g1]; decide) (by decide) (by decide)) ?_
  rintro v2 U2 D hU ⟨r, R, p, vR, vp, rfl, h2, h3, rfl, h4, -⟩
  rw [List.nil_append]
  obtain ⟨rfl, hR, hp0, hp1⟩ := awake_ech h4
  obtain ⟨_, rfl, pr, cr, rs, rfl, -⟩ := id h2
  obtain ⟨pp, cp, ps, rfl, -⟩ := id h3
  repeat (first | refine run_S ?_ | refine w_box (fun _ => ?_) | refine w_al (fun _ => ?_))
  refine sl_bslice (vs := [.int .i64 0, .int .i64 1]) sym rfl rfl rfl rfl rfl rfl (all_size rfl) rfl rfl rfl rfl rfl rfl (fun d7 => ?_)
  refine sl_bslice (vs := [.int .i64 1, .int .i64 0]) sym rfl rfl rfl rfl rfl rfl (all_size rfl) rfl rfl rfl rfl rfl rfl (fun d8 => ?_)
  refine sl_bslice (vs := [.slice (some ⟨d7, 0, none⟩) 2 2, .slice (some ⟨d8, 0, none⟩) 2 2]) sym rfl rfl rfl rfl rfl rfl (all_size rfl) rfl rfl rfl rfl rfl rfl (fun d9 => ?_)
  refine sl_call rfl rfl rfl rfl rfl rfl (fun _ => ct_setm (bRows_ct (r := 2) (c := 2) (lit_rows (ls := [[0, 1], [1, 0]]) rfl (by decide) (two_rows (lit_row (l := [0, 1]) (e := TInt) (rng _ rfl) rfl (by decide) sb) (lit_row (l := [1, 0]) (e := TInt) (rng _ rfl) rfl (by decide) sb)) sb) (by decide) (by decide) (by decide))) ?_
  rintro vh5 Uh5 D hU ⟨h5, rfl⟩
  rw [List.nil_append]
  repeat (first | refine run_S ?_ | refine w_box (fun _ => ?_) | refine w_al (fun _ => ?_))
  refine sl_call rfl rfl rfl rfl rfl rfl (fun _ => mDet_ct (b := 1) (h5.w fun i j _ _ => zz_sz (small _ rfl) i j) (by decide) (by rw [g1]; decide) (by rw [g1]; decide) (by decide)) ?_
  rintro v6 U6 D hU ⟨x6, rfl, h6, rfl, -, -⟩
  rw [List.nil_append, awake_det] at *
  repeat (first | refine run_S ?_ | refine w_box (fun _ => ?_) | refine w_al (fun _ => ?_))
  refine st_drawT (.node 4 5 (.leaf [0, 1, 2, 3, 4, 5, 6, 7, 8, 9, 10, 11, 12, 13, 14, 15, 16, 17, 18, 19, 20, 21, 22, 23, 24]) (.leaf [0, 1, 2, 3, 5, 4, 6, 7, 8, 9, 10, 11, 12, 13, 14, 15, 16, 17, 18, 19, 20, 21, 22, 23, 24])) sym (by kernel_rfl) (by kernel_rfl) (slT_node (slT_leaf ?_) (slT_leaf ?_))
  · repeat (first | refine run_S ?_ | refine w_box (fun _ => ?_) | refine w_al (fun _ => ?_))
    refine sl_gdec rfl rfl (fun _ => ?_) (fun h => absurd rfl h)
    repeat (first | refine run_S ?_ | refine w_box (fun _ => ?_) | refine w_al (fun _ => ?_))
    refine sl_bslice (vs := [.int .i64 1, .int .i64 2, .int .i64 0]) sym rfl rfl rfl rfl rfl rfl (all_size rfl) rfl rfl rfl rfl rfl rfl (fun e7 => ?_)
    refine sl_bslice (vs := [.int .i64 0, .int .i64 0, .int .i64 1]) sym rfl rfl rfl rfl rfl rfl (all_size rfl) rfl rfl rfl rfl rfl rfl (fun e8 => ?_)
    refine sl_bslice (vs := [.slice (some ⟨e7, 0, none⟩) 3 3, .slice (some ⟨e8, 0, none⟩) 3 3]) sym rfl rfl rfl rfl rfl rfl (all_size rfl) rfl rfl rfl rfl rfl rfl (fun e9 => ?_)
    refine sl_call rfl rfl rfl rfl rfl rfl (fun _ => ct_setm (bRows_ct (r := 2) (c := 3) (lit_rows (ls := [[1, 2, 0], [0, 0, 1]]) rfl (by decide) (two_rows (lit_row (l := [1, 2, 0]) (e := TInt) (rng _ rfl) rfl (by decide) sb) (lit_row (l := [0, 0, 1]) (e := TInt) (rng _ rfl) rfl (by decide) sb)) sb) (by decide) (by decide) (by decide))) ?_
    rintro vh7 Uh7 D hU ⟨h7, rfl⟩
    rw [List.nil_append]
    repeat (first | refine run_S ?_ | refine w_box (fun _ => ?_) | refine w_al (fun _ => ?_))
    refine sl_call rfl rfl rfl rfl rfl rfl (fun _ => bSameMatrix_ct (kept_m kept_q _ _ _ _ uc h2) h7 (by decide) (by decide)) ?_
    rintro v8 U8 D hU ⟨b, rfl, hb, rfl, rfl⟩
    obtain rfl := hb.2 ⟨rfl, rfl, hR⟩
    repeat (first | refine run_S ?_ | refine w_box (fun _ => ?_) | refine w_al (fun _ => ?_))
    refine sl_bslice (vs := [.int .i64 0, .int .i64 2]) sym rfl rfl rfl rfl rfl rfl (all_size rfl) rfl rfl rfl rfl rfl rfl (fun c7 => ?_)
    refine sl_call rfl rfl rfl rfl rfl rfl (fun _ => bInts_ct (fun k : Nat => (k : Int)) id (fun _ _ _ h => h) (fun _ _ _ h => h.1) (h3.ls kept_i uc) (lit_row (l := [0, 2]) (e := TInt) (rng _ rfl) rfl (by decide) sb) (by decide) (by decide)) ?_
    rintro v9 U9 D hU ⟨b, rfl, hb, rfl, rfl⟩
    obtain rfl := hb.2 ⟨rfl, fun i hi => by
      rcases show i = 0 ∨ i = 1 by omega with rfl | rfl
      · rw [hp0]; rfl
      · rw [hp1]; rfl⟩
    repeat (first | refine run_S ?_ | refine w_box (fun _ => ?_) | refine w_al (fun _ => ?_))
    refine sl_gdec rfl rfl (fun _ => ?_) (fun h => absurd rfl h)
    repeat (first | refine run_S ?_ | refine w_box (fun _ => ?_) | refine w_al (fun _ => ?_))
    refine sl_call rfl rfl rfl rfl rfl rfl (fun _ => (bQ_ct (z := -1) (by decide) (by decide)).settle) ?_
    rintro v Uh9 D hU ⟨rfl, _, _, ⟨xh9, rfl, h9, -⟩, -, -, hs⟩
    replace h9 := h9.sett hs
    clear hs
    repeat (first | refine run_S ?_ | refine w_box (fun _ => ?_) | refine w_al (fun _ => ?_))
    refine sl_call rfl rfl rfl rfl rfl rfl (fun _ => bSameRat_cz (h6.up uc sb) (h9.up uc sb)) ?_
    rintro v U' D hU ⟨rfl, rfl, rfl⟩
    repeat (first | refine run_S ?_ | refine w_box (fun _ => ?_) | refine w_al (fun _ => ?_))
    rw [decide_eq_true rfl]
    repeat (first | refine run_S ?_ | refine w_box (fun _ => ?_) | refine w_al (fun _ => ?_))
    exact sk_ret [] sym rfl (.cons (.tmp rfl) .nil) uc sb (.inl rfl) ⟨rfl, uc, rfl⟩
  · repeat (first | refine run_S ?_ | refine w_box (fun _ => ?_) | refine w_al (fun _ => ?_))
    refine sl_gdec rfl rfl (fun _ => ?_) (fun h => absurd rfl h)
    repeat (first | refine run_S ?_ | refine w_box (fun _ => ?_) | refine w_al (fun _ => ?_))
    refine sl_bslice (vs := [.int .i64 0, .int .i64 0, .int .i64 1]) sym rfl rfl rfl rfl rfl rfl (all_size rfl) rfl rfl rfl rfl rfl rfl (fun e8 => ?_)
    refine sl_bslice (vs := [.int .i64 1, .int .i64 2, .int .i64 0]) sym rfl rfl rfl rfl rfl rfl (all_size rfl) rfl rfl rfl rfl rfl rfl (fun e7 => ?_)
    refine sl_bslice (vs := [.slice (some ⟨e7, 0, none⟩) 3 3, .slice (some ⟨e8, 0, none⟩) 3 3]) sym rfl rfl rfl rfl rfl rfl (all_size rfl) rfl rfl rfl rfl rfl rfl (fun e9 => ?_)
    refine sl_call rfl rfl rfl rfl rfl rfl (fun _ => ct_setm (bRows_ct (r := 2) (c := 3) (lit_rows (ls := [[1, 2, 0], [0, 0, 1]]) rfl (by decide) (two_rows (lit_row (l := [1, 2, 0]) (e := TInt) (rng _ rfl) rfl (by decide) sb) (lit_row (l := [0, 0, 1]) (e := TInt) (rng _ rfl) rfl (by decide) sb)) sb) (by decide) (by decide) (by decide))) ?_
    rintro vh7 Uh7 D hU ⟨h7, rfl⟩
    rw [List.nil_append]
    repeat (first | refine run_S ?_ | refine w_box (fun _ => ?_) | refine w_al (fun _ => ?_))
    refine sl_call rfl rfl rfl rfl rfl rfl (fun _ => bSameMatrix_ct (kept_m kept_q _ _ _ _ uc h2) h7 (by decide) (by decide)) ?_
    rintro v8 U8 D hU ⟨b, rfl, hb, rfl, rfl⟩
    obtain rfl := hb.2 ⟨rfl, rfl, hR⟩
    repeat (first | refine run_S ?_ | refine w_box (fun _ => ?_) | refine w_al (fun _ => ?_))
    refine sl_bslice (vs := [.int .i64 0, .int .i64 2]) sym rfl rfl rfl rfl rfl rfl (all_size rfl) rfl rfl rfl rfl rfl rfl (fun c7 => ?_)
    refine sl_call rfl rfl rfl rfl rfl rfl (fun _ => bInts_ct (fun k : Nat => (k : Int)) id (fun _ _ _ h => h) (fun _ _ _ h => h.1) (h3.ls kept_i uc) (lit_row (l := [0, 2]) (e := TInt) (rng _ rfl) rfl (by decide) sb) (by decide) (by decide)) ?_
    rintro v9 U9 D hU ⟨b, rfl, hb, rfl, rfl⟩
    obtain rfl := hb.2 ⟨rfl, fun i hi => by
      rcases show i = 0 ∨ i = 1 by omega with rfl | rfl
      · rw [hp0]; rfl
      · rw [hp1]; rfl⟩
    repeat (first | refine run_S ?_ | refine w_box (fun _ => ?_) | refine w_al (fun _ => ?_))
    refine sl_gdec rfl rfl (fun _ => ?_) (fun h => absurd rfl h)
    repeat (first | refine run_S ?_ | refine w_box (fun _ => ?_) | refine w_al (fun _ => ?_))
    refine sl_call rfl rfl rfl rfl rfl rfl (fun _ => (bQ_ct (z := -1) (by decide) (by decide)).settle) ?_
    rintro v Uh9 D hU ⟨rfl, _, _, ⟨xh9, rfl, h9, -⟩, -, -, hs⟩
    replace h9 := h9.sett hs
    clear hs
    repeat (first | refine run_S ?_ | refine w_box (fun _ => ?_) | refine w_al (fun _ => ?_))
    refine sl_call rfl rfl rfl rfl rfl rfl (fun _ => bSameRat_cz (h6.up uc sb) (h9.up uc sb)) ?_
    rintro v U' D hU ⟨rfl, rfl, rfl⟩
    repeat (first | refine run_S ?_ | refine w_box (fun _ => ?_) | refine w_al (fun _ => ?_))
    rw [decide_eq_true rfl]
    repeat (first | refine run_S ?_ | refine w_box (fun _ => ?_) | refine w_al (fun _ => ?_))
    exact sk_ret [] sym rfl (.cons (.tmp rfl) .nil) uc sb (.inl rfl) ⟨rfl, uc, rfl⟩

end Go.Proofs.Ytcfgogamamdipaa
