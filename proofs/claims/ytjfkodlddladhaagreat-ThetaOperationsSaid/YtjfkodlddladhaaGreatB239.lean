/- Laws of layer 36: Operations. -/
import Derived.Test.YtjfkodlddladhaaGreatM59
import Derived.Test.YtjfkodlddladhaaGreatM56
import Derived.Test.YtjfkodlddladhaaGreatRt
namespace Go.Proofs.YtjfkodlddladhaaGreat
open Go.Hp
open Classical
variable {G : World} {U U' : UH} {M : MH}
def grn (e : Int) (n : Nat) : Nat := if e = 0 then n else 0
theorem gr_norm {e : Int} {n : Nat} {g : Nat → Int} {v : Value} (h : GrO e n g U v) (hn : e = 0 → n ≤ 8) :
  ∃ (p : Option Addr) (c : Nat) (vs : List Value), v = .tuple #[.agg #[.int .i64 (grn e n : Int), .slice p (grn e n * grn e n) c], .int .i64 e] ∧ grn e n * grn e n ≤ 64 ∧ grn e n * grn e n ≤ c ∧ RowAt U [] 1 p (grn e n * grn e n) vs ∧ El Vz U vs g := by
 obtain ⟨h1, h2⟩ := h
 unfold grn
 by_cases e1 : e = 0
 ·subst e1
  obtain ⟨_, rfl, p, c, vs, rfl, hc, rw1, el⟩ := h2 rfl
  have := Nat.mul_le_mul (hn rfl) (hn rfl)
  rw [if_pos rfl]
  exact ⟨_, _, _, rfl, by omega, hc, rw1, el⟩
 ·rw [if_neg e1]
  exact ⟨_, 0, [], h1 e1, by decide, Nat.le_refl 0, RowAt.nil, El.nil⟩
theorem chk_le {r : Int} {N : Nat} {f : Nat → Int} (h : chk r N f = 0) : r.toNat ≤ 8 := by
 obtain ⟨n, rfl, -, h8, -⟩ := chk_zero h
 exact h8
theorem esum_le {r1 r2 : Int} {N1 N2 : Nat} {f1 f2 : Nat → Int} (h : esum r1 N1 f1 r2 N2 f2 = 0) : (r1 + r2).toNat ≤ 8 := by
 unfold esum at h
 split at h
 ·rename_i h1; exact absurd h h1
 ·split at h
  ·rename_i h1; exact absurd h h1
  ·split at h
   ·cases h
   ·omega
theorem escl_le {r d : Int} {N : Nat} {f : Nat → Int} (h : escl r N f d = 0) : r.toNat ≤ 8 := by
 unfold escl at h
 split at h
 ·rename_i h1; exact absurd h h1
 ·rename_i h1; exact chk_le (Classical.not_not.1 h1)
theorem echg_le {r : Int} {N Nu : Nat} {f u : Nat → Int} (h : echg r N f Nu u = 0) : r.toNat ≤ 8 := by
 unfold echg at h
 split at h
 ·rename_i h1; exact absurd h h1
 ·rename_i h1; exact chk_le (Classical.not_not.1 h1)
set_option maxHeartbeats 8000000 in
theorem ThetaOperations_ct {va vb vu : Value} {r1 r2 : Int} {N1 N2 Nu : Nat} {f1 f2 u : Nat → Int} (ha : RawG U va r1 N1 f1) (hb : RawG U vb r2 N2 f2) (hu : Ls Vz 1 Nu U [] vu u) (hNu : Nu ≤ 9223372036854775807) :
  Ct Tryz.prog 11 [va, vb, vu] G U M fun v _ _ => v = .bool true := by
 obtain ⟨hr1, hN1, _, rfl, p1, c1, vs1, rfl, hc1, rw1, el1⟩ := ha
 obtain ⟨hr2, hN2, _, rfl, p2, c2, vs2, rfl, hc2, rw2, el2⟩ := hb
 obtain ⟨pu, cu, us, rfl, hcu, rwu, elu⟩ := hu
 refine ct_of_st Tryz.func11 rfl rfl rfl rfl ?_
 repeat (first|refine run_S ?_|refine w_box fun _=>?_|refine w_al fun _=>?_)
 rename_i b3 b4
 refine sl_call rfl rfl rfl rfl rfl rfl (fun _ => wide36_ct) ?_
 rintro v U' D hU ⟨rfl, rfl, rfl⟩
 repeat (first|refine run_S ?_|refine w_box fun _=>?_|refine w_al fun _=>?_)
 by_cases h64 : 64 < N1
 ·rw [decide_eq_true h64]
  repeat (first|refine run_S ?_|refine w_box fun _=>?_|refine w_al fun _=>?_)
  refine sl_call rfl rfl rfl rfl rfl rfl (fun _ => awake36_ct) ?_
  rintro v9 U9 D9 hU9 ⟨rfl, -, rfl⟩
  try rw [List.nil_append]
  repeat (first|refine run_S ?_|refine w_box fun _=>?_|refine w_al fun _=>?_)
  exact sk_ret [] sym rfl (.cons (.tmp rfl) .nil) uc sb (.inl rfl) rfl
 rw [decide_eq_false h64]
 repeat (first|refine run_S ?_|refine w_box fun _=>?_|refine w_al fun _=>?_)
 refine sl_call rfl rfl rfl rfl rfl rfl (fun _ => wide36_ct) ?_
 rintro v U' D hU ⟨rfl, rfl, rfl⟩
 repeat (first|refine run_S ?_|refine w_box fun _=>?_|refine w_al fun _=>?_)
 by_cases h65 : 64 < N2
 ·rw [decide_eq_true h65]
  repeat (first|refine run_S ?_|refine w_box fun _=>?_|refine w_al fun _=>?_)
  refine sl_call rfl rfl rfl rfl rfl rfl (fun _ => awake36_ct) ?_
  rintro v9 U9 D9 hU9 ⟨rfl, -, rfl⟩
  try rw [List.nil_append]
  repeat (first|refine run_S ?_|refine w_box fun _=>?_|refine w_al fun _=>?_)
  exact sk_ret [] sym rfl (.cons (.tmp rfl) .nil) uc sb (.inl rfl) rfl
 rw [decide_eq_false h65]
 repeat (first|refine run_S ?_|refine w_box fun _=>?_|refine w_al fun _=>?_)
 refine sl_call rfl rfl rfl rfl rfl rfl (fun _ => wide36_ct) ?_
 rintro v U' D hU ⟨rfl, rfl, rfl⟩
 repeat (first|refine run_S ?_|refine w_box fun _=>?_|refine w_al fun _=>?_)
 by_cases h66 : 64 < Nu
 ·rw [decide_eq_true h66]
  repeat (first|refine run_S ?_|refine w_box fun _=>?_|refine w_al fun _=>?_)
  refine sl_call rfl rfl rfl rfl rfl rfl (fun _ => awake36_ct) ?_
  rintro v9 U9 D9 hU9 ⟨rfl, -, rfl⟩
  try rw [List.nil_append]
  repeat (first|refine run_S ?_|refine w_box fun _=>?_|refine w_al fun _=>?_)
  exact sk_ret [] sym rfl (.cons (.tmp rfl) .nil) uc sb (.inl rfl) rfl
 rw [decide_eq_false h66]
 repeat (first|refine run_O ?_|refine w_box fun _=>?_|refine w_al fun _=>?_)
 refine st_seq ?_
 repeat (first|refine run_O ?_|refine w_box fun _=>?_|refine w_al fun _=>?_)
 rw [List.nil_append, List.nil_append, List.nil_append]
 refine st_seq_cut (fun E U' M' => ∃ (d : Int), U = U' ∧ E = [(7, .int .i64 d), (2, .slice pu Nu cu), (3, .pointer (some ⟨b3, 0, none⟩)), (4, .pointer (some ⟨b4, 0, none⟩)), (6, .bool false)] ∧ ULe U U' ∧ M' = (b4, .var (.agg #[.int .i64 r2, .slice p2 N2 c2]), 24) :: (b3, .var (.agg #[.int .i64 r1, .slice p1 N1 c1]), 24) :: M) ?_ ?_
 ·repeat (first|refine run_S ?_|refine w_box fun _=>?_|refine w_al fun _=>?_)
  refine st_dec rfl (fun h => ?_) (fun h => ?_)
  ·obtain ⟨w, hw⟩ := rwu.at (k := 0) (by omega)
   obtain ⟨hv, -⟩ := elu _ _ hw
   subst hv
   repeat (first|refine run_S ?_|refine w_box fun _=>?_|refine w_al fun _=>?_)
   refine sl_y (yl_index sym rfl rfl rfl rfl rfl rfl ((rwu.up uc sb).lt hw) ((rwu.up uc sb).get _ _ hw).1) rfl rfl rfl rfl ?_; refine sl_y (yl_loadR1 sym rfl rfl rfl rfl (rwu.up uc sb) hw rfl) rfl rfl rfl rfl ?_
   try refine run_s ?_
   exact sk_cut (E' := [(7, .int .i64 ((u 0))), (2, .slice pu Nu cu), (3, .pointer (some ⟨b3, 0, none⟩)), (4, .pointer (some ⟨b4, 0, none⟩)), (6, .bool false)]) ⟨rfl, rfl, rfl, rfl, rfl, trivial⟩ ⟨(u 0), rfl, rfl, uc, rfl⟩
  ·repeat (first|refine run_S ?_|refine w_box fun _=>?_|refine w_al fun _=>?_)
   exact sk_cut (E' := [(7, .int .i64 ((Nu : Int))), (2, .slice pu Nu cu), (3, .pointer (some ⟨b3, 0, none⟩)), (4, .pointer (some ⟨b4, 0, none⟩)), (6, .bool false)]) ⟨rfl, rfl, rfl, rfl, rfl, trivial⟩ ⟨(Nu : Int), rfl, rfl, uc, rfl⟩
 rintro E U1 M' ⟨d, rfl, rfl, hU1, rfl⟩
 repeat (first|refine run_S ?_|refine w_box fun _=>?_|refine w_al fun _=>?_)
 refine sl_call rfl rfl rfl rfl rfl rfl (fun _ => tSum_ct (rw1.up uc (List.nil_sublist _)) (el1.up KeptC.out uc) hN1 hc1 (rw2.up uc (List.nil_sublist _)) (el2.up KeptC.out uc) hN2 hc2) ?_
 rintro va U2 D hU2 ⟨g1, rfl⟩
 rw [List.nil_append]
 obtain ⟨q1, k1, xs1, rfl, hl1, hk1, rx1, ex1⟩ := gr_norm g1 esum_le
 repeat (first|refine run_S ?_|refine w_box fun _=>?_|refine w_al fun _=>?_)
 refine sl_call rfl rfl rfl rfl rfl rfl (fun _ => r36Sum_ct (rw1.up uc (List.nil_sublist _)) (el1.up KeptC.out uc) hN1 hc1 (rw2.up uc (List.nil_sublist _)) (el2.up KeptC.out uc) hN2 hc2) ?_
 rintro v2 W2 D hW2 ⟨g2, rfl⟩
 rw [List.nil_append]
 obtain ⟨q2, k2, xs2, rfl, hl2, hk2, rx2, ex2⟩ := gr_norm g2 esum_le
 repeat (first|refine run_S ?_|refine w_box fun _=>?_|refine w_al fun _=>?_)
 refine sl_call rfl rfl rfl rfl rfl rfl (fun _ => tScale_ct (d := d) (rw1.up uc (List.nil_sublist _)) (el1.up KeptC.out uc) hN1 hc1) ?_
 rintro v3 W3 D hW3 ⟨g3, rfl⟩
 rw [List.nil_append]
 obtain ⟨q3, k3, xs3, rfl, hl3, hk3, rx3, ex3⟩ := gr_norm g3 escl_le
 repeat (first|refine run_S ?_|refine w_box fun _=>?_|refine w_al fun _=>?_)
 refine sl_call rfl rfl rfl rfl rfl rfl (fun _ => r36Scale_ct (d := d) (rw1.up uc (List.nil_sublist _)) (el1.up KeptC.out uc) hN1 hc1) ?_
 rintro v4 W4 D hW4 ⟨g4, rfl⟩
 rw [List.nil_append]
 obtain ⟨q4, k4, xs4, rfl, hl4, hk4, rx4, ex4⟩ := gr_norm g4 escl_le
 repeat (first|refine run_S ?_|refine w_box fun _=>?_|refine w_al fun _=>?_)
 refine sl_call rfl rfl rfl rfl rfl rfl (fun _ => tChange_ct (rw1.up uc (List.nil_sublist _)) (el1.up KeptC.out uc) hN1 hc1 (rwu.up uc (List.nil_sublist _)) (elu.up KeptC.out uc) hNu hcu) ?_
 rintro v5 W5 D hW5 ⟨g5, rfl⟩
 rw [List.nil_append]
 obtain ⟨q5, k5, xs5, rfl, hl5, hk5, rx5, ex5⟩ := gr_norm g5 echg_le
 repeat (first|refine run_S ?_|refine w_box fun _=>?_|refine w_al fun _=>?_)
 refine sl_call rfl rfl rfl rfl rfl rfl (fun _ => r36Change_ct (rw1.up uc (List.nil_sublist _)) (el1.up KeptC.out uc) hN1 hc1 (rwu.up uc (List.nil_sublist _)) (elu.up KeptC.out uc) hNu hcu) ?_
 rintro v6 W6 D hW6 ⟨g6, rfl⟩
 rw [List.nil_append]
 obtain ⟨q6, k6, xs6, rfl, hl6, hk6, rx6, ex6⟩ := gr_norm g6 echg_le
 repeat (first|refine run_S ?_|refine w_box fun _=>?_|refine w_al fun _=>?_)
 refine sl_call rfl rfl rfl rfl rfl rfl (fun _ => same36_ct (rx1.up uc (List.nil_sublist _)) (ex1.up KeptC.out uc) (rx2.up uc (List.nil_sublist _)) (ex2.up KeptC.out uc) hk1 hk2 (by omega) (by omega)) ?_
 rintro s1 V1 D hV1 ⟨bb, rfl, hbb, rfl, rfl⟩
 obtain rfl := hbb.2 ⟨rfl, rfl, fun _ _ => rfl⟩
 rw [List.nil_append]
 repeat (first|refine run_S ?_|refine w_box fun _=>?_|refine w_al fun _=>?_)
 refine sl_gdec rfl rfl (fun _ => ?_) (fun h => absurd rfl h)
 repeat (first|refine run_S ?_|refine w_box fun _=>?_|refine w_al fun _=>?_)
 refine sl_call rfl rfl rfl rfl rfl rfl (fun _ => same36_ct (rx3.up uc (List.nil_sublist _)) (ex3.up KeptC.out uc) (rx4.up uc (List.nil_sublist _)) (ex4.up KeptC.out uc) hk3 hk4 (by omega) (by omega)) ?_
 rintro s3 V3 D hV3 ⟨bb, rfl, hbb, rfl, rfl⟩
 obtain rfl := hbb.2 ⟨rfl, rfl, fun _ _ => rfl⟩
 rw [List.nil_append]
 repeat (first|refine run_S ?_|refine w_box fun _=>?_|refine w_al fun _=>?_)
 refine sl_gdec rfl rfl (fun _ => ?_) (fun h => absurd rfl h)
 repeat (first|refine run_S ?_|refine w_box fun _=>?_|refine w_al fun _=>?_)
 refine sl_call rfl rfl rfl rfl rfl rfl (fun _ => same36_ct (rx5.up uc (List.nil_sublist _)) (ex5.up KeptC.out uc) (rx6.up uc (List.nil_sublist _)) (ex6.up KeptC.out uc) hk5 hk6 (by omega) (by omega)) ?_
 rintro s5 V5 D hV5 ⟨bb, rfl, hbb, rfl, rfl⟩
 obtain rfl := hbb.2 ⟨rfl, rfl, fun _ _ => rfl⟩
 rw [List.nil_append]
 repeat (first|refine run_S ?_|refine w_box fun _=>?_|refine w_al fun _=>?_)
 refine sl_gdec rfl rfl (fun _ => ?_) (fun h => absurd rfl h)
 repeat (first|refine run_S ?_|refine w_box fun _=>?_|refine w_al fun _=>?_)
 refine sl_call rfl rfl rfl rfl rfl rfl (fun _ => awake36_ct) ?_
 rintro v9 U9 D9 hU9 ⟨rfl, -, rfl⟩
 try rw [List.nil_append]
 repeat (first|refine run_S ?_|refine w_box fun _=>?_|refine w_al fun _=>?_)
 exact sk_ret [] sym rfl (.cons (.tmp rfl) .nil) uc sb (.inl rfl) rfl
end Go.Proofs.YtjfkodlddladhaaGreat
