/- Laws of layer 36: Expansions. -/
import Derived.Test.YtjfkodlddladhaaGreatM58
import Derived.Test.YtjfkodlddladhaaGreatRt
namespace Go.Proofs.YtjfkodlddladhaaGreat
open Go.Hp
variable {G : World} {U U' : UH} {M : MH}
theorem wgt_same {n P : Nat} {f : Nat → Int} {v v' : Value} (h : WgtO n f P U v) (h' : WgtO n f P U' v') :
  ∃ (F e : Int) (a a' : Value) (K : Nat) (g g' : Nat → Rat), v = .tuple #[.agg #[.int .i64 F, a], .int .i64 e] ∧ v' = .tuple #[.agg #[.int .i64 F, a'], .int .i64 e] ∧ Ls Vq 4 K U [] a g ∧ Ls Vq 4 K U' [] a' g' ∧ K ≤ P ∧ ∀ i, i < K → g i = g' i := by
 obtain ⟨X, hX, h1, h2⟩ := h
 obtain ⟨Y, hY, k1, k2⟩ := h'
 have hb : ∀ i, i < n → bd X (P - 1) i = bd Y (P - 1) i := fun i hi => bd_uniq hX hY hi
 have hp := pre_congr hb
 have hcv : ∀ N q, cv n f (bd X (P - 1)) N q = cv n f (bd Y (P - 1)) N q := fun N q => cv_congr hb
 rcases Nat.lt_or_ge 1048576 (Bx.pre (bd X (P - 1)) n) with hl | hl
 ·exact ⟨0, 7, _, _, 0, fun _ => 0, fun _ => 0, h2 hl, k2 (by rw [← hp]; exact hl), ⟨_, _, [], rfl, Nat.le_refl 0, RowAt.nil, El.nil⟩, ⟨_, _, [], rfl, Nat.le_refl 0, RowAt.nil, El.nil⟩, Nat.zero_le P, fun i hi => absurd hi (Nat.not_lt_zero i)⟩
 ·obtain ⟨s, _, e1, rfl, a, rfl, e3⟩ := h1 hl
  obtain ⟨s', _, e4, rfl, a', rfl, e6⟩ := k1 (by rw [← hp]; exact hl)
  have hfe : (fun q => (((cv n f (bd X (P - 1)) (Bx.pre (bd X (P - 1)) n) q : Nat) : Int) : Rat)) = (fun q => (((cv n f (bd Y (P - 1)) (Bx.pre (bd Y (P - 1)) n) q : Nat) : Int) : Rat)) := funext fun q => by rw [hcv, hp]
  rw [hfe] at e1
  obtain rfl := e1.uniq e4
  exact ⟨_, _, a, a', _, _, _, rfl, rfl, e3, e6, by omega, fun i _ => by rw [hcv, hp]⟩
def ExpA (r prec : Int) (N : Nat) (f : Nat → Int) (U : UH) (v : Value) : Prop :=
 (chk r N f ≠ 0 → v = .tuple #[.agg #[.int .i64 0, .slice none 0 0], .int .i64 (chk r N f)]) ∧
  (∀ n : Nat, r = (n : Int) → chk r N f = 0 → ((prec < 0 ∨ 1000 < prec) → v = .tuple #[.agg #[.int .i64 0, .slice none 0 0], .int .i64 2]) ∧ (∀ P : Nat, prec = (P : Int) → P ≤ 1000 → WgtO n f P U v))
theorem exp_both {r prec : Int} {N : Nat} {f : Nat → Int} {v v' : Value} (h : ExpA r prec N f U v) (h' : ExpA r prec N f U' v') :
  ∃ (F e : Int) (a a' : Value) (K : Nat) (g g' : Nat → Rat), v = .tuple #[.agg #[.int .i64 F, a], .int .i64 e] ∧ v' = .tuple #[.agg #[.int .i64 F, a'], .int .i64 e] ∧ Ls Vq 4 K U [] a g ∧ Ls Vq 4 K U' [] a' g' ∧ K ≤ 1000 ∧ ∀ i, i < K → g i = g' i := by
 have nl : ∀ (U : UH), Ls Vq 4 0 U [] (.slice none 0 0) (fun _ => (0 : Rat)) := fun U => ⟨_, _, [], rfl, Nat.le_refl 0, RowAt.nil, El.nil⟩
 obtain ⟨h1, h2⟩ := h
 obtain ⟨k1, k2⟩ := h'
 by_cases hc : chk r N f = 0
 ·obtain ⟨n, rfl, -⟩ := chk_zero hc
  obtain ⟨a1, a2⟩ := h2 n rfl hc
  obtain ⟨b1, b2⟩ := k2 n rfl hc
  by_cases e1 : prec < 0 ∨ 1000 < prec
  ·exact ⟨_, _, _, _, 0, _, _, a1 e1, b1 e1, nl _, nl _, by decide, fun i hi => absurd hi (Nat.not_lt_zero i)⟩
  ·obtain ⟨P, rfl⟩ : ∃ k : Nat, prec = (k : Int) := ⟨prec.toNat, by omega⟩
   obtain ⟨F, e, a, a', K, g, g', j1, j2, j3, j4, j5, j6⟩ := wgt_same (a2 P rfl (by omega)) (b2 P rfl (by omega))
   exact ⟨F, e, a, a', K, g, g', j1, j2, j3, j4, by omega, j6⟩
 ·exact ⟨_, _, _, _, 0, _, _, h1 hc, k1 hc, nl _, nl _, by decide, fun i hi => absurd hi (Nat.not_lt_zero i)⟩
theorem exp_shape {r prec : Int} {N : Nat} {f : Nat → Int} {v : Value} (h : ExpA r prec N f U v) : ∃ (F : Int) (q : Option Addr) (w c : Nat) (e : Int), v = .tuple #[.agg #[.int .i64 F, .slice q w c], .int .i64 e] := by
 obtain ⟨F, e, a, a', K, g, g', h1, -, ⟨q, c, xs, rfl, -⟩, -⟩ := exp_both h h
 exact ⟨_, _, _, _, _, h1⟩
set_option maxHeartbeats 4000000 in
theorem ThetaExpansions_ct {vg : Value} {r m : Int} {N : Nat} {f : Nat → Int} (hg : RawG U vg r N f) (hm0 : -9223372036854775808 ≤ m) (hm1 : m ≤ 9223372036854775807) :
  Ct Tryz.prog 3 [vg, .int .i64 m] G U M fun v _ _ => v = .bool true := by
 obtain ⟨hr, hNm, _, rfl, p, c, vs, rfl, hc, rw1, el⟩ := hg
 refine ct_of_st Tryz.func3 rfl rfl rfl rfl ?_
 repeat (first|refine run_S ?_|refine w_box fun _=>?_|refine w_al fun _=>?_)
 rename_i b2
 refine sl_call rfl rfl rfl rfl rfl rfl (fun _ => wide36_ct) ?_
 rintro v U' D hU ⟨rfl, rfl, rfl⟩
 repeat (first|refine run_S ?_|refine w_box fun _=>?_|refine w_al fun _=>?_)
 by_cases h64 : 64 < N
 ·rw [decide_eq_true h64]
  repeat (first|refine run_S ?_|refine w_box fun _=>?_|refine w_al fun _=>?_)
  refine sl_call rfl rfl rfl rfl rfl rfl (fun _ => awake36_ct) ?_
  rintro v9 U9 D9 hU9 ⟨rfl, -, rfl⟩
  try rw [List.nil_append]
  repeat (first|refine run_S ?_|refine w_box fun _=>?_|refine w_al fun _=>?_)
  exact sk_ret [] sym rfl (.cons (.tmp rfl) .nil) uc sb (.inl rfl) rfl
 rw [decide_eq_false h64]
 repeat (first|refine run_S ?_|refine w_box fun _=>?_|refine w_al fun _=>?_)
 refine sl_call rfl rfl rfl rfl rfl rfl (fun _ => broad_ct (rw1.up uc (List.nil_sublist _)) (el.up KeptC.out uc) hc hNm) ?_
 rintro v1 U1 D1 hU1 ⟨⟨bb, rfl⟩, -, rfl⟩
 try rw [List.nil_append]
 cases bb
 case true =>
  repeat (first|refine run_S ?_|refine w_box fun _=>?_|refine w_al fun _=>?_)
  refine sl_call rfl rfl rfl rfl rfl rfl (fun _ => awake36_ct) ?_
  rintro v9 U9 D9 hU9 ⟨rfl, -, rfl⟩
  try rw [List.nil_append]
  repeat (first|refine run_S ?_|refine w_box fun _=>?_|refine w_al fun _=>?_)
  exact sk_ret [] sym rfl (.cons (.tmp rfl) .nil) uc sb (.inl rfl) rfl
 repeat (first|refine run_S ?_|refine w_box fun _=>?_|refine w_al fun _=>?_)
 refine sl_call rfl rfl rfl rfl rfl rfl (fun _ => tExpansion_ct (r := r) (prec := m) (rw1.up uc (List.nil_sublist _)) (el.up KeptC.out uc) hNm ⟨hm0, hm1⟩) ?_
 rintro v2 U2 D2 hU2 ⟨a1, a2, rfl⟩
 try rw [List.nil_append]
 have hA : ExpA r m N f U2 v2 := ⟨a1, a2⟩
 clear a1 a2
 obtain ⟨F2, q2, w2, c2, e2, rfl⟩ := exp_shape hA
 repeat (first|refine run_S ?_|refine w_box fun _=>?_|refine w_al fun _=>?_)
 refine sl_call rfl rfl rfl rfl rfl rfl (fun _ => r36Expansion_ct (r := r) (prec := m) (rw1.up uc (List.nil_sublist _)) (el.up KeptC.out uc) hc hNm ⟨hm0, hm1⟩) ?_
 rintro v3 U3 D3 hU3 ⟨a1, a2, rfl⟩
 try rw [List.nil_append]
 have hB : ExpA r m N f U3 v3 := ⟨a1, a2⟩
 clear a1 a2
 obtain ⟨F, e, a, a', K, g, g', g1, g2, g3, g4, g5, g6⟩ := exp_both hA hB
 obtain ⟨q3, c3, xs3, rfl, -⟩ := id g4
 obtain ⟨q4, c4, xs4, rfl, -⟩ := id g3
 obtain ⟨rfl, rfl, rfl, rfl, rfl⟩ : F2 = F ∧ q2 = q4 ∧ w2 = K ∧ c2 = c4 ∧ e2 = e := by cases g1; exact ⟨rfl, rfl, rfl, rfl, rfl⟩
 clear g1
 subst g2
 repeat (first|refine run_S ?_|refine w_box fun _=>?_|refine w_al fun _=>?_)
 refine sl_call rfl rfl rfl rfl rfl rfl (fun _ => bSameSeries_ct ⟨_, rfl, Ls.up g3 kept_q uc (List.nil_sublist _)⟩ ⟨_, rfl, Ls.up g4 kept_q uc (List.nil_sublist _)⟩ (by omega) (by omega)) ?_
 rintro v5 U5 D5 hU5 ⟨bb, rfl, hbb, rfl, rfl⟩
 obtain rfl := hbb.2 ⟨rfl, rfl, g6⟩
 rw [List.nil_append]
 repeat (first|refine run_S ?_|refine w_box fun _=>?_|refine w_al fun _=>?_)
 refine sl_gdec rfl rfl (fun _ => ?_) (fun h => absurd rfl h)
 repeat (first|refine run_S ?_|refine w_box fun _=>?_|refine w_al fun _=>?_)
 refine sl_call rfl rfl rfl rfl rfl rfl (fun _ => awake36_ct) ?_
 rintro v9 U9 D9 hU9 ⟨rfl, -, rfl⟩
 try rw [List.nil_append]
 repeat (first|refine run_S ?_|refine w_box fun _=>?_|refine w_al fun _=>?_)
 exact sk_ret [] sym rfl (.cons (.tmp rfl) .nil) uc sb (.inl rfl) rfl
end Go.Proofs.YtjfkodlddladhaaGreat
