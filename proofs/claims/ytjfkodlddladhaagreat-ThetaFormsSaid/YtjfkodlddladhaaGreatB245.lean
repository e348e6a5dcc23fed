/- Laws of layer 36: Forms. -/
import Derived.Test.YtjfkodlddladhaaGreatM60
import Derived.Test.YtjfkodlddladhaaGreatM56
import Derived.Test.YtjfkodlddladhaaGreatRt
namespace Go.Proofs.YtjfkodlddladhaaGreat
open Go.Hp
variable {G : World} {U U' : UH} {M : MH}
theorem dsc_same {n : Nat} {f : Nat → Int} {v v' : Value} (h : DscP n f v) (h' : DscO n f v') : v' = v := by
 rcases h with ⟨d, h1, h2, h3, rfl⟩ | ⟨h1, rfl⟩
 ·rcases h' with ⟨d', k1, k2, k3, rfl⟩ | ⟨k1, rfl⟩
  ·rw [(h3 d' k2).1 k3]
  ·exact absurd ((h3 d h2).2 rfl) (k1 d h2)
 ·rcases h' with ⟨d', k1, k2, k3, rfl⟩ | ⟨k1, rfl⟩
  ·exact absurd k3 (h1 d' k2)
  ·rfl
theorem dsc_shape {n : Nat} {f : Nat → Int} {v : Value} (h : DscP n f v) : ∃ a e : Int, v = .tuple #[.int .i64 a, .int .i64 e] := by
 rcases h with ⟨d, h1, h2, h3, rfl⟩ | ⟨h1, rfl⟩
 ·exact ⟨_, _, rfl⟩
 ·exact ⟨_, _, rfl⟩
theorem zero_nrm : zeroIV.nrm U [] 0 := zeroIV0_own.at (List.nil_sublist _)
set_option maxHeartbeats 4000000 in
theorem ThetaForms_ct {vg : Value} {r : Int} {N : Nat} {f : Nat → Int} (hg : RawG U vg r N f) :
  Ct Tryz.prog 9 [vg] G U M fun v _ _ => v = .bool true := by
 obtain ⟨hr, hNm, _, rfl, p, c, vs, rfl, hc, rw1, el⟩ := hg
 refine ct_of_st Tryz.func9 rfl rfl rfl rfl ?_
 repeat (first|refine run_S ?_|refine w_box fun _=>?_|refine w_al fun _=>?_)
 rename_i b1
 refine sl_call rfl rfl rfl rfl rfl rfl (fun _ => wide36_ct) ?_
 rintro v U' D hU ⟨rfl, rfl, rfl⟩
 repeat (first|refine run_S ?_|refine w_box fun _=>?_|refine w_al fun _=>?_)
 by_cases h64 : 64 < N
 ·rw [decide_eq_true h64]
  repeat (first|refine run_S ?_|refine w_box fun _=>?_|refine w_al fun _=>?_)
  refine sl_call rfl rfl rfl rfl rfl rfl (fun _ => awake36_ct) ?_
  rintro v9 U9 D9 hU9 ⟨rfl, -, rfl⟩
  try rw [List.nil_append]
  repeat (first|refine run_S ?_|refine w_box fun _=>?_|refine w_al fun _=>?_)
  exact sk_ret [] sym rfl (.cons (.tmp rfl) .nil) uc sb (.inl rfl) rfl
 rw [decide_eq_false h64]
 repeat (first|refine run_S ?_|refine w_box fun _=>?_|refine w_al fun _=>?_)
 refine sl_call rfl rfl rfl rfl rfl rfl (fun _ => tDet_ct (rw1.up uc (List.nil_sublist _)) (el.up KeptC.out uc) hNm) ?_
 rintro v2 U2 D2 hU2 ⟨x, rfl, hx0, hx1, rfl⟩
 try rw [List.nil_append]
 repeat (first|refine run_S ?_|refine w_box fun _=>?_|refine w_al fun _=>?_)
 rename_i b3
 refine sl_call rfl rfl rfl rfl rfl rfl (fun _ => r36Det_ct (rw1.up uc (List.nil_sublist _)) (el.up KeptC.out uc) hc hNm) ?_
 rintro v3 U3 D3 hU3 ⟨y, rfl, hy0, hy1, rfl⟩
 try rw [List.nil_append]
 repeat (first|refine run_S ?_|refine w_box fun _=>?_|refine w_al fun _=>?_)
 rename_i b5
 obtain ⟨dt, hdx, hdy⟩ : ∃ dt : Int, x.nrm U2 [] dt ∧ y.nrm U3 [] dt := by
  by_cases h : chk r N f = 0
  ·obtain ⟨n, rfl, -⟩ := chk_zero h
   exact ⟨_, hx1 n rfl h, hy1 n rfl h⟩
  ·rw [hx0 h, hy0 h]
   exact ⟨0, zero_nrm, zero_nrm⟩
 refine sl_call rfl rfl rfl rfl rfl rfl (fun _ => tLevel_ct (rw1.up uc (List.nil_sublist _)) (el.up KeptC.out uc) hNm) ?_
 rintro v4 U4 D4 hU4 ⟨l1, l2, rfl⟩
 try rw [List.nil_append]
 have hl4 : ∃ a e : Int, v4 = .tuple #[.int .i64 a, .int .i64 e] ∧ ∀ v' : Value, (chk r N f ≠ 0 → v' = .tuple #[.int .i64 0, .int .i64 (chk r N f)]) → (∀ n : Nat, r = (n : Int) → chk r N f = 0 → ∀ X : Nat → Nat → Rat, Inv n f X →
   v' = if Fq.lv (dlv n X) (n * n) ≤ 600 then .tuple #[.int .i64 (Fq.lv (dlv n X) (n * n) : Int), .int .i64 0] else .tuple #[.int .i64 0, .int .i64 7]) → v' = .tuple #[.int .i64 a, .int .i64 e] := by
  by_cases h : chk r N f = 0
  ·obtain ⟨n, rfl, hn1, hn8, rfl, hb, he, hp⟩ := chk_zero h
   obtain ⟨X, hX, hv⟩ := l2 n rfl h
   have hI := inv_of hb he hp hn1 hn8 hX
   by_cases h6 : Fq.lv (dlv n X) (n * n) ≤ 600
   ·rw [if_pos h6] at hv
    exact ⟨_, _, hv, fun v' _ k => by rw [k n rfl h X hI, if_pos h6]⟩
   ·rw [if_neg h6] at hv
    exact ⟨_, _, hv, fun v' _ k => by rw [k n rfl h X hI, if_neg h6]⟩
  ·exact ⟨_, _, l1 h, fun v' k _ => k h⟩
 obtain ⟨la, le, rfl, hl4⟩ := hl4
 repeat (first|refine run_S ?_|refine w_box fun _=>?_|refine w_al fun _=>?_)
 refine sl_call rfl rfl rfl rfl rfl rfl (fun _ => r36Level_ct (rw1.up uc (List.nil_sublist _)) (el.up KeptC.out uc) hc hNm) ?_
 rintro v5 U5 D5 hU5 ⟨k1, k2, rfl⟩
 try rw [List.nil_append]
 obtain rfl := hl4 v5 k1 k2
 clear l1 l2 hl4 k1 k2
 repeat (first|refine run_S ?_|refine w_box fun _=>?_|refine w_al fun _=>?_)
 refine sl_call rfl rfl rfl rfl rfl rfl (fun _ => tDisc_ct (rw1.up uc (List.nil_sublist _)) (el.up KeptC.out uc) hNm) ?_
 rintro v6 U6 D6 hU6 ⟨l1, l2, rfl⟩
 try rw [List.nil_append]
 have hd6 : ∃ a e : Int, v6 = .tuple #[.int .i64 a, .int .i64 e] ∧ ∀ v' : Value, (chk r N f ≠ 0 → v' = .tuple #[.int .i64 0, .int .i64 (chk r N f)]) → (∀ n : Nat, r = (n : Int) → chk r N f = 0 → (n % 2 = 1 → v' = .tuple #[.int .i64 0, .int .i64 16]) ∧ (n % 2 = 0 → DscO n f v')) → v' = .tuple #[.int .i64 a, .int .i64 e] := by
  by_cases h : chk r N f = 0
  ·obtain ⟨n, rfl, -⟩ := chk_zero h
   obtain ⟨m1, m2⟩ := l2 n rfl h
   rcases Nat.mod_two_eq_zero_or_one n with h2 | h2
   ·obtain ⟨a, e, hv⟩ := dsc_shape (m2 h2)
    exact ⟨a, e, hv, fun v' _ k => by rw [← hv]; exact dsc_same (m2 h2) ((k n rfl h).2 h2)⟩
   ·exact ⟨_, _, m1 h2, fun v' _ k => (k n rfl h).1 h2⟩
  ·exact ⟨_, _, l1 h, fun v' k _ => k h⟩
 obtain ⟨da, de, rfl, hd6⟩ := hd6
 repeat (first|refine run_S ?_|refine w_box fun _=>?_|refine w_al fun _=>?_)
 refine sl_call rfl rfl rfl rfl rfl rfl (fun _ => r36Disc_ct (rw1.up uc (List.nil_sublist _)) (el.up KeptC.out uc) hc hNm) ?_
 rintro v7 U7 D7 hU7 ⟨k1, k2, rfl⟩
 try rw [List.nil_append]
 obtain rfl := hd6 v7 k1 k2
 clear l1 l2 hd6 k1 k2
 try refine run_s ?_
 refine st_drawM [3, 8, 9, 13, 14, 18, 19, 23, 24, 28, 29, 33, 34, 36, 37, 38] [0, 2, 1, 3, 4, 5, 6, 7, 8, 9, 10, 11, 12, 13, 14, 15, 16, 17, 18, 19, 20, 21, 22, 23, 24, 25, 26, 27, 28, 29, 30, 31, 32, 33, 34, 35, 36, 37, 38] sym (by kernel_rfl) ?_
 try refine run_s ?_
 refine sl_call rfl rfl rfl rfl rfl rfl (fun _ => tCheck_ct (rw1.up uc (List.nil_sublist _)) (el.up KeptC.out uc) hNm) ?_
 rintro v50 U50 D hU50 ⟨rfl, -, rfl⟩
 rw [List.nil_append]
 try refine run_s ?_
 refine sl_call rfl rfl rfl rfl rfl rfl (fun _ => r36Check_ct (rw1.up uc (List.nil_sublist _)) (el.up KeptC.out uc) hc hNm) ?_
 rintro v52 U52 D hU52 ⟨rfl, -, rfl⟩
 rw [List.nil_append]
 try refine run_s ?_
 refine sl_gdec rfl rfl (fun _ => ?_) (fun h => absurd rfl h)
 try refine run_s ?_
 refine sl_call rfl rfl rfl rfl rfl rfl (fun _ => bSame_cz (hdx.up uc (List.nil_sublist _)) (hdy.up uc (List.nil_sublist _))) ?_
 rintro v U' D hU ⟨rfl, rfl, rfl⟩
 repeat (first|refine run_S ?_|refine w_box fun _=>?_|refine w_al fun _=>?_)
 rw [decide_eq_true rfl]
 try refine run_s ?_
 refine sl_gdec rfl rfl (fun _ => ?_) (fun h => absurd rfl h)
 try refine run_s ?_
 refine sl_gdec rfl rfl (fun _ => ?_) (fun h => absurd rfl h)
 try refine run_s ?_
 refine sl_gdec rfl rfl (fun _ => ?_) (fun h => absurd rfl h)
 try refine run_s ?_
 refine sl_gdec rfl rfl (fun _ => ?_) (fun h => absurd rfl h)
 try refine run_s ?_
 refine sl_gdec rfl rfl (fun _ => ?_) (fun h => absurd rfl h)
 try refine run_s ?_
 refine sl_call rfl rfl rfl rfl rfl rfl (fun _ => awake36_ct) ?_
 rintro v9 U9 D9 hU9 ⟨rfl, -, rfl⟩
 try rw [List.nil_append]
 repeat (first|refine run_S ?_|refine w_box fun _=>?_|refine w_al fun _=>?_)
 exact sk_ret [] sym rfl (.cons (.tmp rfl) .nil) uc sb (.inl rfl) rfl
end Go.Proofs.YtjfkodlddladhaaGreat
