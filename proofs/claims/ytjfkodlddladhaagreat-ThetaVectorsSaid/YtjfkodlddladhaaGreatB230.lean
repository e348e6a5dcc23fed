/- Laws of layer 36: Vectors. -/
import Derived.Test.YtjfkodlddladhaaGreatM57
namespace Go.Proofs.YtjfkodlddladhaaGreat
open Go.Hp
variable {G : World} {U U' : UH} {M : MH}
theorem sameVectors_ct {n u w : Nat} {va vb : Value} {A B : Nat → Nat → Int} (ha : Ls (Vrs Vz n) 1 u U [] va A) (hb : Ls (Vrs Vz n) 1 w U [] vb B) (hn : n ≤ 8) (ht : u ≤ 1048576) (hw : w ≤ 1048576) :
    Ct Tryz.prog 26 [va, vb] G U M fun v U' D => ∃ b : Bool, v = .bool b ∧ (b = true ↔ u = w ∧ ∀ i j, i < w → j < n → A i j = B i j) ∧ U = U' ∧ D = [] := by
  obtain ⟨pa, ca, as1, rfl, hca, ra, ea⟩ := ha
  obtain ⟨pb, cb, bs1, rfl, hcb, rb, eb⟩ := hb
  refine ct_of_st Tryz.func26 rfl rfl rfl rfl ?_
  repeat (first | refine run_S ?_ | refine w_box (fun _ => ?_) | refine w_al (fun _ => ?_))
  refine st_ne rfl (fun h => ?_) (fun h => ?_)
  · repeat (first | refine run_S ?_ | refine w_box (fun _ => ?_) | refine w_al (fun _ => ?_))
    exact sk_ret [] sym rfl (.cons (.tmp rfl) .nil) uc sb (.inl rfl) ⟨false, rfl, ⟨(fun h2 => by cases h2), fun h2 => absurd (by rw [h2.1]) h⟩, rfl, rfl⟩
  obtain rfl : w = u := (Int.ofNat.inj h).symm
  repeat (first | refine run_S ?_ | refine w_box (fun _ => ?_) | refine w_al (fun _ => ?_))
  try refine st_anti (M' := M) (ULe.refl _) sbk ?_
  refine st_loop (fun z E U' M' => ∃ (i : Nat), i ≤ w ∧ (∀ a j, a < i → j < n → A a j = B a j) ∧ U = U' ∧ E = [(5, .int .i64 (i : Int)), (0, .slice pa w ca), (1, .slice pb w cb)] ∧ ULe U U' ∧ M' = M ∧ z = w - i) (n0 := w - 0) (E0 := [(5, .int .i64 ((0 : Nat) : Int)), (0, .slice pa w ca), (1, .slice pb w cb)]) ⟨rfl, rfl, rfl, trivial⟩ ⟨0, by omega, (fun a j h => absurd h (Nat.not_lt_zero a)), rfl, rfl, uc, rfl, rfl⟩ ?_
  rintro z E U1 M' ⟨i, hi, hall, rfl, rfl, hU1, rfl, rfl⟩
  try refine run_s ?_
  refine st_dec rfl (fun h1 => ?_) (fun h1 => ?_)
  · have hin : i < w := by omega
    obtain ⟨v1, hv1⟩ := ra.at hin
    obtain ⟨q1, c1, xs1, rfl, hc1, rx, ex⟩ := ea _ _ hv1
    obtain ⟨v2, hv2⟩ := rb.at hin
    obtain ⟨q2, c2, xs2, rfl, hc2, ry, ey⟩ := eb _ _ hv2
    try refine run_s ?_
    refine st_drawM [8, 9] [0, 1, 2, 3, 4, 5, 6, 7, 8, 9] sym (by kernel_rfl) ?_
    try refine run_s ?_
    refine sl_y (yl_index sym rfl rfl rfl rfl rfl rfl ((ra.up uc sb).lt hv1) ((ra.up uc sb).get _ _ hv1).1) rfl rfl rfl rfl ?_; refine sl_y (yl_loadR1 sym rfl rfl rfl rfl (ra.up uc sb) hv1 rfl) rfl rfl rfl rfl ?_
    try refine run_s ?_
    refine sl_y (yl_index sym rfl rfl rfl rfl rfl rfl ((rb.up uc sb).lt hv2) ((rb.up uc sb).get _ _ hv2).1) rfl rfl rfl rfl ?_; refine sl_y (yl_loadR1 sym rfl rfl rfl rfl (rb.up uc sb) hv2 rfl) rfl rfl rfl rfl ?_
    try refine run_s ?_
    refine sl_call rfl rfl rfl rfl rfl rfl (fun _ => bInts_ct (ok1 := Vz) (ok2 := Vz) (f := A i) (g := B i) id id (fun _ _ _ h => h.1) (fun _ _ _ h => h.1) ⟨_, _, _, rfl, hc1, rx.up uc (List.nil_sublist _), ex⟩ ⟨_, _, _, rfl, hc2, ry.up uc (List.nil_sublist _), ey⟩ (by omega) (by omega)) ?_
    rintro v3 U3 D3 hU3 ⟨bb, rfl, hbb, rfl, rfl⟩
    rw [List.nil_append]
    cases bb
    · try refine run_s ?_
      exact sk_ret [] sym rfl (.cons (.tmp rfl) .nil) uc sb (.inl rfl) ⟨false, rfl, ⟨(fun h2 => by cases h2), fun h2 => by have := hbb.2 ⟨rfl, fun j hj => h2.2 i j hin hj⟩; cases this⟩, rfl, rfl⟩
    · have h5 := (hbb.1 rfl).2
      try refine run_s ?_
      exact sk_again (E' := [(5, .int .i64 ((i : Int) + 1)), (0, .slice pa w ca), (1, .slice pb w cb)]) (m := w - (i + 1)) ⟨rfl, rfl, rfl, trivial⟩ (by omega) ⟨i + 1, by omega, (fun a j ha hj => by
        rcases Nat.lt_or_eq_of_le (Nat.le_of_lt_succ ha) with h6 | h6
        · exact hall a j h6 hj
        · rw [h6]; exact h5 j hj), rfl, rfl, uc, rfl, rfl⟩
  · obtain rfl : w = i := by omega
    try refine run_s ?_
    exact sk_ret [] sym rfl (.cons (.tmp rfl) .nil) uc sb (.inl rfl) ⟨true, rfl, ⟨fun _ => ⟨rfl, hall⟩, fun _ => rfl⟩, rfl, rfl⟩
theorem vec_same {n m : Nat} {f : Nat → Int} {v v' : Value} (h : VecO n f m U v) (h' : VecO n f m U' v') :
    (∃ s s' w w', v = .tuple #[s, .int .i64 0] ∧ v' = .tuple #[s', .int .i64 0] ∧ ∃ A B, Ls (Vrs Vz n) 1 w U [] s A ∧ Ls (Vrs Vz n) 1 w' U' [] s' B ∧ w = w' ∧ w' ≤ 1048576 ∧ ∀ i j, i < w' → j < n → A i j = B i j) ∨ v = .tuple #[.slice none 0 0, .int .i64 7] ∧ v' = .tuple #[.slice none 0 0, .int .i64 7] := by
  obtain ⟨X, hX, h1, h2⟩ := h
  obtain ⟨Y, hY, k1, k2⟩ := h'
  have hb : ∀ i, i < n → bd X m i = bd Y m i := fun i hi => bd_uniq hX hY hi
  have hp := pre_congr hb
  have hpv : pv n f (bd X m) m = pv n f (bd Y m) m := funext fun k => by unfold pv; rw [vn_congr hb]
  rcases Nat.lt_or_ge 1048576 (Bx.pre (bd X m) n) with hl | hl
  · exact .inr ⟨h2 hl, k2 (by rw [← hp]; exact hl)⟩
  · obtain ⟨s, e1, e2⟩ := h1 hl
    obtain ⟨s', e3, e4⟩ := k1 (by rw [← hp]; exact hl)
    refine .inl ⟨s, s', _, _, e1, e3, _, _, e2, e4, by rw [hpv, hp], Nat.le_trans (idx_le _ _) (by rw [← hp]; exact hl), fun i j _ hj => ?_⟩
    unfold vv
    rw [hpv, hp]
    exact vec_congr hb hj
def VecA (r m : Int) (N : Nat) (f : Nat → Int) (U : UH) (v : Value) : Prop :=
  (chk r N f ≠ 0 → v = .tuple #[.slice none 0 0, .int .i64 (chk r N f)]) ∧ (chk r N f = 0 → 1000 < m → v = .tuple #[.slice none 0 0, .int .i64 2]) ∧ (chk r N f = 0 → m < 0 → v = .tuple #[.slice none 0 0, .int .i64 0]) ∧
    (∀ n k : Nat, r = (n : Int) → m = (k : Int) → k ≤ 1000 → chk r N f = 0 → VecO n f k U v)
theorem vec_both {r m : Int} {N : Nat} {f : Nat → Int} {v v' : Value} (h : VecA r m N f U v) (h' : VecA r m N f U' v') :
    ∃ (n : Nat) (s s' : Value) (e : Int) (w : Nat) (A B : Nat → Nat → Int), n ≤ 8 ∧ v = .tuple #[s, .int .i64 e] ∧ v' = .tuple #[s', .int .i64 e] ∧ Ls (Vrs Vz n) 1 w U [] s A ∧ Ls (Vrs Vz n) 1 w U' [] s' B ∧ w ≤ 1048576 ∧ ∀ i j, i < w → j < n → A i j = B i j := by
  have nl : ∀ (U : UH), Ls (Vrs Vz 0) 1 0 U [] (.slice none 0 0) (fun _ _ => (0 : Int)) := fun U => ⟨_, _, [], rfl, Nat.le_refl 0, RowAt.nil, El.nil⟩
  obtain ⟨h1, h2, h3, h4⟩ := h
  obtain ⟨k1, k2, k3, k4⟩ := h'
  by_cases hc : chk r N f = 0
  · by_cases e1 : 1000 < m
    · exact ⟨0, _, _, _, 0, _, _, by decide, h2 hc e1, k2 hc e1, nl _, nl _, by decide, fun i _ hi => absurd hi (Nat.not_lt_zero i)⟩
    · by_cases e2 : m < 0
      · exact ⟨0, _, _, _, 0, _, _, by decide, h3 hc e2, k3 hc e2, nl _, nl _, by decide, fun i _ hi => absurd hi (Nat.not_lt_zero i)⟩
      · obtain ⟨k, rfl⟩ : ∃ k : Nat, m = (k : Int) := ⟨m.toNat, by omega⟩
        obtain ⟨n, rfl, -, hn8, -⟩ := chk_zero hc
        rcases vec_same (h4 n k rfl rfl (by omega) hc) (k4 n k rfl rfl (by omega) hc) with ⟨s, s', w, w', g1, g2, A, B, g3, g4, rfl, g5, g6⟩ | ⟨g1, g2⟩
        · exact ⟨n, s, s', _, _, A, B, hn8, g1, g2, g3, g4, g5, g6⟩
        · exact ⟨0, _, _, _, 0, _, _, by decide, g1, g2, nl _, nl _, by decide, fun i _ hi => absurd hi (Nat.not_lt_zero i)⟩
  · exact ⟨0, _, _, _, 0, _, _, by decide, h1 hc, k1 hc, nl _, nl _, by decide, fun i _ hi => absurd hi (Nat.not_lt_zero i)⟩
theorem vec_shape {r m : Int} {N : Nat} {f : Nat → Int} {v : Value} (h : VecA r m N f U v) : ∃ (q : Option Addr) (w c : Nat) (e : Int), v = .tuple #[.slice q w c, .int .i64 e] := by
  obtain ⟨n, _, s', e, w, A, B, -, h2, -, ⟨q, c, xs, rfl, -⟩, -⟩ := vec_both h h
  exact ⟨_, _, _, _, h2⟩
set_option maxHeartbeats 4000000 in
theorem ThetaVectors_ct {vg : Value} {r m : Int} {N : Nat} {f : Nat → Int} (hg : RawG U vg r N f) (hm0 : -9223372036854775808 ≤ m) (hm1 : m ≤ 9223372036854775807) :
    Ct Tryz.prog 5 [vg, .int .i64 m] G U M fun v _ _ => v = .bool true := by
  obtain ⟨hr, hNm, _, rfl, p, c, vs, rfl, hc, rw1, el⟩ := hg
  refine ct_of_st Tryz.func5 rfl rfl rfl rfl ?_
  repeat (first | refine run_S ?_ | refine w_box (fun _ => ?_) | refine w_al (fun _ => ?_))
  rename_i b2
  refine sl_call rfl rfl rfl rfl rfl rfl (fun _ => wide36_ct) ?_
  rintro v U' D hU ⟨rfl, rfl, rfl⟩
  repeat (first | refine run_S ?_ | refine w_box (fun _ => ?_) | refine w_al (fun _ => ?_))
  by_cases h64 : 64 < N
  · rw [decide_eq_true h64]
    repeat (first | refine run_S ?_ | refine w_box (fun _ => ?_) | refine w_al (fun _ => ?_))
    refine sl_call rfl rfl rfl rfl rfl rfl (fun _ => awake36_ct) ?_
    rintro v9 U9 D9 hU9 ⟨rfl, -, rfl⟩
    try rw [List.nil_append]
    repeat (first | refine run_S ?_ | refine w_box (fun _ => ?_) | refine w_al (fun _ => ?_))
    exact sk_ret [] sym rfl (.cons (.tmp rfl) .nil) uc sb (.inl rfl) rfl
  rw [decide_eq_false h64]
  repeat (first | refine run_S ?_ | refine w_box (fun _ => ?_) | refine w_al (fun _ => ?_))
  refine sl_call rfl rfl rfl rfl rfl rfl (fun _ => broad_ct (rw1.up uc (List.nil_sublist _)) (el.up KeptC.out uc) hc hNm) ?_
  rintro v1 U1 D1 hU1 ⟨⟨bb, rfl⟩, -, rfl⟩
  try rw [List.nil_append]
  cases bb
  case true =>
    repeat (first | refine run_S ?_ | refine w_box (fun _ => ?_) | refine w_al (fun _ => ?_))
    refine sl_call rfl rfl rfl rfl rfl rfl (fun _ => awake36_ct) ?_
    rintro v9 U9 D9 hU9 ⟨rfl, -, rfl⟩
    try rw [List.nil_append]
    repeat (first | refine run_S ?_ | refine w_box (fun _ => ?_) | refine w_al (fun _ => ?_))
    exact sk_ret [] sym rfl (.cons (.tmp rfl) .nil) uc sb (.inl rfl) rfl
  repeat (first | refine run_S ?_ | refine w_box (fun _ => ?_) | refine w_al (fun _ => ?_))
  refine sl_call rfl rfl rfl rfl rfl rfl (fun _ => tVectors_ct (r := r) (m := m) (rw1.up uc (List.nil_sublist _)) (el.up KeptC.out uc) hNm ⟨hm0, hm1⟩) ?_
  rintro v2 U2 D2 hU2 ⟨a1, a2, a3, a4, rfl⟩
  try rw [List.nil_append]
  have hA : VecA r m N f U2 v2 := ⟨a1, a2, a3, a4⟩
  clear a1 a2 a3 a4
  obtain ⟨q2, w2, c2, e2, rfl⟩ := vec_shape hA
  repeat (first | refine run_S ?_ | refine w_box (fun _ => ?_) | refine w_al (fun _ => ?_))
  refine sl_call rfl rfl rfl rfl rfl rfl (fun _ => r36Vectors_ct (r := r) (m := m) (rw1.up uc (List.nil_sublist _)) (el.up KeptC.out uc) hc hNm ⟨hm0, hm1⟩) ?_
  rintro v3 U3 D3 hU3 ⟨a1, a2, a3, a4, rfl⟩
  try rw [List.nil_append]
  have hB : VecA r m N f U3 v3 := ⟨a1, a2, a3, a4⟩
  clear a1 a2 a3 a4
  obtain ⟨n, s, s', e, w, A, B, hn8, g1, g2, g3, g4, g5, g6⟩ := vec_both hA hB
  obtain ⟨q3, c3, xs3, rfl, -⟩ := id g4
  simp only [Value.tuple.injEq, Array.mk.injEq, List.cons.injEq, and_true] at g1
  obtain ⟨rfl, g1⟩ := g1
  obtain rfl : e2 = e := by cases g1; rfl
  subst g2
  repeat (first | refine run_S ?_ | refine w_box (fun _ => ?_) | refine w_al (fun _ => ?_))
  refine sl_call rfl rfl rfl rfl rfl rfl (fun _ => sameVectors_ct (Ls.up g3 KeptC.out uc (List.Sublist.refl _)) (Ls.up g4 KeptC.out uc (List.Sublist.refl _)) hn8 g5 g5) ?_
  rintro v5 U5 D5 hU5 ⟨bb, rfl, hbb, rfl, rfl⟩
  obtain rfl := hbb.2 ⟨rfl, g6⟩
  rw [List.nil_append]
  repeat (first | refine run_S ?_ | refine w_box (fun _ => ?_) | refine w_al (fun _ => ?_))
  refine sl_gdec rfl rfl (fun _ => ?_) (fun h => absurd rfl h)
  repeat (first | refine run_S ?_ | refine w_box (fun _ => ?_) | refine w_al (fun _ => ?_))
  refine sl_call rfl rfl rfl rfl rfl rfl (fun _ => awake36_ct) ?_
  rintro v9 U9 D9 hU9 ⟨rfl, -, rfl⟩
  try rw [List.nil_append]
  repeat (first | refine run_S ?_ | refine w_box (fun _ => ?_) | refine w_al (fun _ => ?_))
  exact sk_ret [] sym rfl (.cons (.tmp rfl) .nil) uc sb (.inl rfl) rfl
end Go.Proofs.YtjfkodlddladhaaGreat
