/- The law of layer 9 on matrices that are built. -/
import Derived.Test.YtcfgogamamdipaaGreatB118
import Derived.Test.YtcfgogamamdipaaGreatB113
import Derived.Test.YtcfgogamamdipaaGreatB114
import Derived.Test.YtcfgogamamdipaaGreatB116
namespace Go.Proofs.YtcfgogamamdipaaGreat
open Go.Hp
variable {G : World} {U U' : UH} {M M' : MH}

/-- A row of so many raw fractions; rows of them among the arguments. -/
def Rx (U : UH) (v : Value) (g : Nat × (Nat → Rat)) : Prop := g.1 ≤ 9223372036854775807 ∧ Ls Xq 4 g.1 U [] v g.2
theorem kept_rx : Kept Rx := fun _ _ _ _ hU h => ⟨h.1, Ls.up h.2 kept_x hU (List.Sublist.refl _)⟩
def Rats2 (U : UH) (v : Value) (n : Nat) (g : Nat → Nat × (Nat → Rat)) : Prop := n ≤ 9223372036854775807 ∧ Ls Rx 1 n U [] v g

set_option maxHeartbeats 1000000 in
set_option maxRecDepth 100000 in
theorem MatrixBuilds_ct {c i : Int} {r : Nat} {vr : Value} {g : Nat → Nat × (Nat → Rat)} (hc1 : -9223372036854775808 ≤ c) (hc2 : c ≤ 9223372036854775807) (hr : Rats2 U vr r g) (hi1 : -9223372036854775808 ≤ i) (hi2 : i ≤ 9223372036854775807) :
    Ct Tryz.prog 6 [.int .i64 c, vr, .int .i64 i] G U M fun v _ _ => v = .bool true := by
  obtain ⟨hrn, pr, cr, rs, rfl, hcr, rr, er⟩ := hr
  refine ct_of_st Tryz.func6 rfl rfl rfl rfl ?_
  repeat (first | refine run_S ?_ | refine w_box (fun _ => ?_) | refine w_al (fun _ => ?_))
  refine sl_call rfl rfl rfl rfl rfl rfl (fun _ => awake9_ct) ?_
  rintro v1 U1 D hU1 ⟨rfl, -, rfl⟩
  rw [List.nil_append]
  repeat (first | refine run_O ?_ | refine w_box (fun _ => ?_) | refine w_al (fun _ => ?_))
  refine st_seq_cut (fun E U' M' => (r ≤ 1100 ∧ (c ≤ 40 ∨ 1024 < c)) ∧ E = [(0, .int .i64 c), (1, .slice pr r cr), (2, .int .i64 i)] ∧ U1 = U' ∧ M = M') ?_ ?_
  · repeat (first | refine run_S ?_ | refine w_box (fun _ => ?_) | refine w_al (fun _ => ?_))
    refine sl_gdec rfl rfl (fun h => ?_) (fun h => ?_)
    · repeat (first | refine run_S ?_ | refine w_box (fun _ => ?_) | refine w_al (fun _ => ?_))
      exact sk_ret [] sym rfl (.cons (.tmp rfl) .nil) uc sb (.inl rfl) rfl
    repeat (first | refine run_S ?_ | refine w_box (fun _ => ?_) | refine w_al (fun _ => ?_))
    refine sl_gdec rfl rfl (fun h2 => ?_) (fun h2 => ?_)
    · repeat (first | refine run_S ?_ | refine w_box (fun _ => ?_) | refine w_al (fun _ => ?_))
      refine st_dec rfl (fun h3 => ?_) (fun h3 => ?_)
      · repeat (first | refine run_S ?_ | refine w_box (fun _ => ?_) | refine w_al (fun _ => ?_))
        exact sk_ret [] sym rfl (.cons (.tmp rfl) .nil) uc sb (.inl rfl) rfl
      repeat (first | refine run_S ?_ | refine w_box (fun _ => ?_) | refine w_al (fun _ => ?_))
      exact sk_cut (E' := [(0, .int .i64 c), (1, .slice pr r cr), (2, .int .i64 i)]) ⟨rfl, rfl, rfl, trivial⟩ ⟨⟨by omega, by omega⟩, rfl, rfl, rfl⟩
    · repeat (first | refine run_S ?_ | refine w_box (fun _ => ?_) | refine w_al (fun _ => ?_))
      exact sk_cut (E' := [(0, .int .i64 c), (1, .slice pr r cr), (2, .int .i64 i)]) ⟨rfl, rfl, rfl, trivial⟩ ⟨⟨by omega, by omega⟩, rfl, rfl, rfl⟩
  rintro E U' M' ⟨⟨hr1, hc⟩, rfl, rfl, rfl⟩
  refine st_seq_cut (fun E U' M' => ∃ ok : Bool, (ok = true ↔ (0 ≤ c ∧ c ≤ 1024) ∧ r ≤ 1024) ∧ E = [(7, .bool ok), (0, .int .i64 c), (1, .slice pr r cr), (2, .int .i64 i)] ∧ U1 = U' ∧ M = M') ?_ ?_
  · repeat (first | refine run_S ?_ | refine w_box (fun _ => ?_) | refine w_al (fun _ => ?_))
    refine sl_gdec rfl rfl (fun h => ?_) (fun h => ?_)
    · repeat (first | refine run_S ?_ | refine w_box (fun _ => ?_) | refine w_al (fun _ => ?_))
      refine sl_gdec rfl rfl (fun h2 => ?_) (fun h2 => ?_)
      · repeat (first | refine run_S ?_ | refine w_box (fun _ => ?_) | refine w_al (fun _ => ?_))
        exact sk_cut (E' := [(7, .bool (dec ((r : Int) ≤ 1024))), (0, .int .i64 c), (1, .slice pr r cr), (2, .int .i64 i)]) ⟨rfl, rfl, rfl, rfl, trivial⟩ ⟨_, ⟨fun h3 => ⟨⟨by omega, h2⟩, by have := of_dec h3; omega⟩, fun h3 => dec_true (by have := h3.2; omega)⟩, rfl, rfl, rfl⟩
      · repeat (first | refine run_S ?_ | refine w_box (fun _ => ?_) | refine w_al (fun _ => ?_))
        exact sk_cut (E' := [(7, .bool false), (0, .int .i64 c), (1, .slice pr r cr), (2, .int .i64 i)]) ⟨rfl, rfl, rfl, rfl, trivial⟩ ⟨_, ⟨(fun h3 => by cases h3), fun h3 => absurd h3.1.2 h2⟩, rfl, rfl, rfl⟩
    · repeat (first | refine run_S ?_ | refine w_box (fun _ => ?_) | refine w_al (fun _ => ?_))
      exact sk_cut (E' := [(7, .bool false), (0, .int .i64 c), (1, .slice pr r cr), (2, .int .i64 i)]) ⟨rfl, rfl, rfl, rfl, trivial⟩ ⟨_, ⟨(fun h3 => by cases h3), fun h3 => absurd h3.1.1 (by omega)⟩, rfl, rfl, rfl⟩
  rintro E U' M' ⟨ok, hok, rfl, rfl, rfl⟩
  try refine run_s ?_
  refine st_loop (fun z E U' M' => ∃ (k : Nat) (ok : Bool), k ≤ r ∧ (ok = true ↔ ((0 ≤ c ∧ c ≤ 1024) ∧ r ≤ 1024 ∧ ∀ j, j < k → ((g j).1 : Int) = c)) ∧ (∀ j v, j < k → rs[j]? = some v → Rq 1 U' v (g j)) ∧ E = [(8, .int .i64 (k : Int)), (7, .bool ok), (0, .int .i64 c), (1, .slice pr r cr), (2, .int .i64 i)] ∧ U1 = U' ∧ M = M' ∧ z = r - k) (n0 := r)
    (E0 := [(8, .int .i64 ((0 : Nat) : Int)), (7, .bool ok), (0, .int .i64 c), (1, .slice pr r cr), (2, .int .i64 i)]) ⟨rfl, rfl, rfl, rfl, rfl, trivial⟩
    ⟨0, ok, by omega, ⟨fun h => ⟨(hok.1 h).1, (hok.1 h).2, fun j hj => absurd hj (Nat.not_lt_zero j)⟩, fun h => hok.2 ⟨h.1, h.2.1⟩⟩, (fun j v hj => absurd hj (Nat.not_lt_zero j)), rfl, rfl, rfl, rfl⟩ ?_
  clear hok ok
  rintro z E U' M' ⟨k, ok, hk, hok, hsh, rfl, rfl, rfl, rfl⟩
  try refine run_s ?_
  refine st_dec rfl (fun h => ?_) (fun h => ?_)
  · have hkr : k < r := by omega
    have rr2 := rr.up (U' := U1) (M' := M) uc sb
    obtain ⟨v2, hv2⟩ := rr2.at hkr
    obtain ⟨hl2, p2, c2, us, rfl, hc2', ru, eu⟩ := er _ _ hv2
    try refine run_s ?_
    refine sl_y (yl_index sym rfl rfl rfl rfl rfl rfl (rr2.lt hv2) (rr2.get _ _ hv2).1) rfl rfl rfl rfl ?_; refine sl_y (yl_loadR1 sym rfl rfl rfl rfl rr2 hv2 rfl) rfl rfl rfl rfl ?_
    try refine run_s ?_
    refine sl_call rfl rfl rfl rfl rfl rfl (fun _ => short9_ct (ru.ls uc) (eu.up kept_x uc) (by omega)) ?_
    rintro v3 U3 D3 hU3 ⟨b3, rfl, hb3, rfl, rfl⟩
    rw [List.nil_append]
    cases b3
    · repeat (first | refine run_S ?_ | refine w_box (fun _ => ?_) | refine w_al (fun _ => ?_))
      exact sk_ret [] sym rfl (.cons (.tmp rfl) .nil) uc sb (.inl rfl) rfl
    replace hb3 := hb3 rfl
    have hsh2 : ∀ j v, j < k + 1 → rs[j]? = some v → Rq 1 U1 v (g j) := fun j v hj hv => by
      rcases Nat.lt_or_eq_of_le (Nat.le_of_lt_succ hj) with h1 | h1
      · exact hsh j v h1 hv
      · subst h1
        rw [hv2] at hv
        cases hv
        exact ⟨hl2, p2, c2, us, rfl, hc2', ru.up uc (List.Sublist.refl _), hb3⟩
    try refine run_s ?_
    cases ok
    · try refine run_s ?_
      exact sk_again (E' := [(8, .int .i64 ((k : Int) + 1)), (7, .bool false), (0, .int .i64 c), (1, .slice pr r cr), (2, .int .i64 i)]) (m := r - (k + 1)) ⟨rfl, rfl, rfl, rfl, rfl, trivial⟩ (by omega)
        ⟨k + 1, false, by omega, ⟨(fun h => by cases h), fun h => hok.2 ⟨h.1, h.2.1, fun j hj => h.2.2 j (by omega)⟩⟩, hsh2, rfl, rfl, rfl, rfl⟩
    · try refine run_s ?_
      refine sl_y (yl_index sym rfl rfl rfl rfl rfl rfl (rr2.lt hv2) (rr2.get _ _ hv2).1) rfl rfl rfl rfl ?_; refine sl_y (yl_loadR1 sym rfl rfl rfl rfl rr2 hv2 rfl) rfl rfl rfl rfl ?_
      try refine run_s ?_
      exact sk_again (E' := [(8, .int .i64 ((k : Int) + 1)), (7, .bool (dec (((g k).1 : Int) = c))), (0, .int .i64 c), (1, .slice pr r cr), (2, .int .i64 i)]) (m := r - (k + 1)) ⟨rfl, rfl, rfl, rfl, rfl, trivial⟩ (by omega)
        ⟨k + 1, _, by omega, ⟨fun h => ⟨(hok.1 rfl).1, (hok.1 rfl).2.1, fun j hj => by
          rcases Nat.lt_or_eq_of_le (Nat.le_of_lt_succ hj) with h1 | h1
          · exact (hok.1 rfl).2.2 j h1
          · rw [h1]; exact of_dec h⟩, fun h => dec_true (h.2.2 k (by omega))⟩, hsh2, rfl, rfl, rfl, rfl⟩
  have e : k = r := by omega
  subst e
  have hrows : Ls (Rq 1) 1 k U1 [] (.slice pr k cr) g := ⟨pr, cr, rs, rfl, hcr, rr.up uc (List.Sublist.refl _), fun j v hj => hsh j v (rr.lt hj) hj⟩
  have hrs : ∀ j v, rs[j]? = some v → Rq 1 U1 v (g j) := fun j v hv => hsh j v (rr.lt hv) hv
  clear hsh
  by_cases hcn : c < 0
  · cases ok
    · repeat (first | refine run_S ?_ | refine w_box (fun _ => ?_) | refine w_al (fun _ => ?_))
      refine sl_call rfl rfl rfl rfl rfl rfl (fun _ => mFromRows_ct (b := 1) (c := c) (Ls.up (M' := []) hrows kept_rq uc (List.Sublist.refl _)) (by decide) (by omega)) ?_
      rintro v4 U4 D4 hU4 ⟨vM, e, rfl, -, hf, rfl⟩
      rw [List.nil_append]
      obtain ⟨rfl, rfl⟩ := hf (fun h => by have := hok.2 h; cases this)
      clear hf
      repeat (first | refine run_S ?_ | refine w_box (fun _ => ?_) | refine w_al (fun _ => ?_))
      refine sl_call rfl rfl rfl rfl rfl rfl (fun _ => mNew_err (r := (k : Int)) (c := c) (by omega)) ?_
      rintro v5 U5 D5 hU5 ⟨rfl, rfl, rfl⟩
      rw [List.nil_append]
      repeat (first | refine run_S ?_ | refine w_box (fun _ => ?_) | refine w_al (fun _ => ?_))
      refine sl_call rfl rfl rfl rfl rfl rfl (fun _ => mIdentity_err (n := c) (by omega)) ?_
      rintro v6 U6 D6 hU6 ⟨rfl, rfl, rfl⟩
      rw [List.nil_append]
      repeat (first | refine run_S ?_ | refine w_box (fun _ => ?_) | refine w_al (fun _ => ?_))
      refine sl_gdec rfl rfl (fun _ => ?_) (fun h => absurd h (by omega))
      repeat (first | refine run_S ?_ | refine w_box (fun _ => ?_) | refine w_al (fun _ => ?_))
      refine sl_gdec rfl rfl (fun h => absurd rfl h) (fun _ => ?_)
      repeat (first | refine run_S ?_ | refine w_box (fun _ => ?_) | refine w_al (fun _ => ?_))
      refine sl_call rfl rfl rfl rfl rfl rfl (fun _ => none9_ct) ?_
      rintro v U D hU ⟨rfl, rfl, rfl⟩
      rw [List.nil_append]
      repeat (first | refine run_S ?_ | refine w_box (fun _ => ?_) | refine w_al (fun _ => ?_))
      refine sl_gdec rfl rfl (fun _ => ?_) (fun h => absurd h (by omega))
      repeat (first | refine run_S ?_ | refine w_box (fun _ => ?_) | refine w_al (fun _ => ?_))
      refine sl_gdec rfl rfl (fun h => absurd rfl h) (fun _ => ?_)
      repeat (first | refine run_S ?_ | refine w_box (fun _ => ?_) | refine w_al (fun _ => ?_))
      refine sl_call rfl rfl rfl rfl rfl rfl (fun _ => none9_ct) ?_
      rintro v U D hU ⟨rfl, rfl, rfl⟩
      rw [List.nil_append]
      repeat (first | refine run_S ?_ | refine w_box (fun _ => ?_) | refine w_al (fun _ => ?_))
      refine sl_gdec rfl rfl (fun _ => ?_) (fun h => absurd rfl h)
      repeat (first | refine run_S ?_ | refine w_box (fun _ => ?_) | refine w_al (fun _ => ?_))
      refine sl_call rfl rfl rfl rfl rfl rfl (fun _ => none9_ct) ?_
      rintro v U D hU ⟨rfl, rfl, rfl⟩
      rw [List.nil_append]
      repeat (first | refine run_S ?_ | refine w_box (fun _ => ?_) | refine w_al (fun _ => ?_))
      exact sk_ret [] sym rfl (.cons (.tmp rfl) .nil) uc sb (.inl rfl) rfl
    · exact absurd (hok.1 rfl).1.1 (by omega)
  by_cases hcb : 1024 < c
  · cases ok
    · repeat (first | refine run_S ?_ | refine w_box (fun _ => ?_) | refine w_al (fun _ => ?_))
      refine sl_call rfl rfl rfl rfl rfl rfl (fun _ => mFromRows_ct (b := 1) (c := c) (Ls.up (M' := []) hrows kept_rq uc (List.Sublist.refl _)) (by decide) (by omega)) ?_
      rintro v4 U4 D4 hU4 ⟨vM, e, rfl, -, hf, rfl⟩
      rw [List.nil_append]
      obtain ⟨rfl, rfl⟩ := hf (fun h => by have := hok.2 h; cases this)
      clear hf
      repeat (first | refine run_S ?_ | refine w_box (fun _ => ?_) | refine w_al (fun _ => ?_))
      refine sl_call rfl rfl rfl rfl rfl rfl (fun _ => mNew_err (r := (k : Int)) (c := c) (by omega)) ?_
      rintro v5 U5 D5 hU5 ⟨rfl, rfl, rfl⟩
      rw [List.nil_append]
      repeat (first | refine run_S ?_ | refine w_box (fun _ => ?_) | refine w_al (fun _ => ?_))
      refine sl_call rfl rfl rfl rfl rfl rfl (fun _ => mIdentity_err (n := c) (by omega)) ?_
      rintro v6 U6 D6 hU6 ⟨rfl, rfl, rfl⟩
      rw [List.nil_append]
      repeat (first | refine run_S ?_ | refine w_box (fun _ => ?_) | refine w_al (fun _ => ?_))
      refine sl_gdec rfl rfl (fun h => absurd h (by omega)) (fun _ => ?_)
      repeat (first | refine run_S ?_ | refine w_box (fun _ => ?_) | refine w_al (fun _ => ?_))
      refine st_dec rfl (fun _ => ?_) (fun h => absurd h (by omega))
      repeat (first | refine run_S ?_ | refine w_box (fun _ => ?_) | refine w_al (fun _ => ?_))
      refine sl_gdec rfl rfl (fun h => absurd rfl h) (fun _ => ?_)
      repeat (first | refine run_S ?_ | refine w_box (fun _ => ?_) | refine w_al (fun _ => ?_))
      refine sl_call rfl rfl rfl rfl rfl rfl (fun _ => none9_ct) ?_
      rintro v U D hU ⟨rfl, rfl, rfl⟩
      rw [List.nil_append]
      repeat (first | refine run_S ?_ | refine w_box (fun _ => ?_) | refine w_al (fun _ => ?_))
      refine sl_gdec rfl rfl (fun h => absurd h (by omega)) (fun _ => ?_)
      repeat (first | refine run_S ?_ | refine w_box (fun _ => ?_) | refine w_al (fun _ => ?_))
      refine sl_gdec rfl rfl (fun _ => ?_) (fun h => absurd h (by omega))
      repeat (first | refine run_S ?_ | refine w_box (fun _ => ?_) | refine w_al (fun _ => ?_))
      refine sl_gdec rfl rfl (fun h => absurd rfl h) (fun _ => ?_)
      repeat (first | refine run_S ?_ | refine w_box (fun _ => ?_) | refine w_al (fun _ => ?_))
      refine sl_call rfl rfl rfl rfl rfl rfl (fun _ => none9_ct) ?_
      rintro v U D hU ⟨rfl, rfl, rfl⟩
      rw [List.nil_append]
      repeat (first | refine run_S ?_ | refine w_box (fun _ => ?_) | refine w_al (fun _ => ?_))
      refine sl_gdec rfl rfl (fun _ => ?_) (fun h => absurd rfl h)
      repeat (first | refine run_S ?_ | refine w_box (fun _ => ?_) | refine w_al (fun _ => ?_))
      refine sl_call rfl rfl rfl rfl rfl rfl (fun _ => none9_ct) ?_
      rintro v U D hU ⟨rfl, rfl, rfl⟩
      rw [List.nil_append]
      repeat (first | refine run_S ?_ | refine w_box (fun _ => ?_) | refine w_al (fun _ => ?_))
      exact sk_ret [] sym rfl (.cons (.tmp rfl) .nil) uc sb (.inl rfl) rfl
    · exact absurd (hok.1 rfl).1.2 (by omega)
  obtain ⟨C, rfl⟩ := Int.eq_ofNat_of_zero_le (show 0 ≤ c by omega)
  have hC : C ≤ 40 := by omega
  have hkC : k * C ≤ 1100 * 40 := Nat.mul_le_mul hr1 hC
  have hCk : C * k ≤ 40 * 1100 := Nat.mul_le_mul hC hr1
  have hCC : C * C ≤ 40 * 40 := Nat.mul_le_mul hC hC
  cases ok
  · by_cases hkb : 1024 < k
    · repeat (first | refine run_S ?_ | refine w_box (fun _ => ?_) | refine w_al (fun _ => ?_))
      refine sl_call rfl rfl rfl rfl rfl rfl (fun _ => mFromRows_ct (b := 1) (c := (C : Int)) (Ls.up (M' := []) hrows kept_rq uc (List.Sublist.refl _)) (by decide) (by omega)) ?_
      rintro v4 U4 D4 hU4 ⟨vM, e, rfl, -, hf, rfl⟩
      rw [List.nil_append]
      obtain ⟨rfl, rfl⟩ := hf (fun h => by have := hok.2 h; cases this)
      clear hf
      repeat (first | refine run_S ?_ | refine w_box (fun _ => ?_) | refine w_al (fun _ => ?_))
      refine sl_call rfl rfl rfl rfl rfl rfl (fun _ => mNew_err (r := (k : Int)) (c := (C : Int)) (by omega)) ?_
      rintro v5 U5 D5 hU5 ⟨rfl, rfl, rfl⟩
      rw [List.nil_append]
      repeat (first | refine run_S ?_ | refine w_box (fun _ => ?_) | refine w_al (fun _ => ?_))
      refine sl_call rfl rfl rfl rfl rfl rfl (fun _ => mIdentity_ct (n := C) (by omega)) ?_
      rintro v6 U6 D6 hU6 ⟨_, rfl, ⟨_, rfl, p6, c6, s6, rfl, h6⟩, rfl⟩
      rw [List.nil_append]
      repeat (first | refine run_S ?_ | refine w_box (fun _ => ?_) | refine w_al (fun _ => ?_))
      refine sl_gdec rfl rfl (fun h => absurd h (by omega)) (fun _ => ?_)
      repeat (first | refine run_S ?_ | refine w_box (fun _ => ?_) | refine w_al (fun _ => ?_))
      refine st_dec rfl (fun h => absurd h (by omega)) (fun _ => ?_)
      repeat (first | refine run_S ?_ | refine w_box (fun _ => ?_) | refine w_al (fun _ => ?_))
      refine st_draw [0, 1, 2, 3, 4, 5, 6, 7, 8] sym (by kernel_rfl) ?_
      repeat (first | refine run_S ?_ | refine w_box (fun _ => ?_) | refine w_al (fun _ => ?_))
      refine sl_gdec rfl rfl (fun h => absurd rfl h) (fun _ => ?_)
      repeat (first | refine run_S ?_ | refine w_box (fun _ => ?_) | refine w_al (fun _ => ?_))
      refine sl_call rfl rfl rfl rfl rfl rfl (fun _ => m9Identity_ct (n := C) (by omega)) ?_
      rintro vh18 Uh18 D hU ⟨h18, rfl⟩
      rw [List.nil_append]
      repeat (first | refine run_S ?_ | refine w_box (fun _ => ?_) | refine w_al (fun _ => ?_))
      repeat (first | refine run_S ?_ | refine w_box (fun _ => ?_) | refine w_al (fun _ => ?_))
      refine sl_call rfl rfl rfl rfl rfl rfl (fun _ => bSameMatrix_ct (kept_m kept_q _ _ _ _ uc ⟨_, rfl, p6, c6, s6, rfl, h6⟩) (kept_m kept_q _ _ _ _ uc h18) (by omega) (by omega)) ?_
      rintro v19 U19 D hU19 ⟨b19, rfl, hb19, rfl, rfl⟩
      rw [List.nil_append]
      obtain rfl := hb19.2 ⟨rfl, rfl, fun _ _ _ _ => rfl⟩
      repeat (first | refine run_S ?_ | refine w_box (fun _ => ?_) | refine w_al (fun _ => ?_))
      refine sl_gdec rfl rfl (fun h => absurd h (by omega)) (fun _ => ?_)
      repeat (first | refine run_S ?_ | refine w_box (fun _ => ?_) | refine w_al (fun _ => ?_))
      refine sl_gdec rfl rfl (fun h => absurd h (by omega)) (fun _ => ?_)
      repeat (first | refine run_S ?_ | refine w_box (fun _ => ?_) | refine w_al (fun _ => ?_))
      refine st_dec rfl (fun _ => ?_) (fun h => absurd h (by omega))
      repeat (first | refine run_S ?_ | refine w_box (fun _ => ?_) | refine w_al (fun _ => ?_))
      refine sl_gdec rfl rfl (fun h => absurd rfl h) (fun _ => ?_)
      repeat (first | refine run_S ?_ | refine w_box (fun _ => ?_) | refine w_al (fun _ => ?_))
      refine sl_call rfl rfl rfl rfl rfl rfl (fun _ => none9_ct) ?_
      rintro v U D hU ⟨rfl, rfl, rfl⟩
      rw [List.nil_append]
      repeat (first | refine run_S ?_ | refine w_box (fun _ => ?_) | refine w_al (fun _ => ?_))
      refine sl_gdec rfl rfl (fun _ => ?_) (fun h => absurd rfl h)
      repeat (first | refine run_S ?_ | refine w_box (fun _ => ?_) | refine w_al (fun _ => ?_))
      refine sl_call rfl rfl rfl rfl rfl rfl (fun _ => none9_ct) ?_
      rintro v U D hU ⟨rfl, rfl, rfl⟩
      rw [List.nil_append]
      repeat (first | refine run_S ?_ | refine w_box (fun _ => ?_) | refine w_al (fun _ => ?_))
      exact sk_ret [] sym rfl (.cons (.tmp rfl) .nil) uc sb (.inl rfl) rfl
    · repeat (first | refine run_S ?_ | refine w_box (fun _ => ?_) | refine w_al (fun _ => ?_))
      refine sl_call rfl rfl rfl rfl rfl rfl (fun _ => mFromRows_ct (b := 1) (c := (C : Int)) (Ls.up (M' := []) hrows kept_rq uc (List.Sublist.refl _)) (by decide) (by omega)) ?_
      rintro v4 U4 D4 hU4 ⟨vM, e, rfl, -, hf, rfl⟩
      rw [List.nil_append]
      obtain ⟨rfl, rfl⟩ := hf (fun h => by have := hok.2 h; cases this)
      clear hf
      repeat (first | refine run_S ?_ | refine w_box (fun _ => ?_) | refine w_al (fun _ => ?_))
      refine sl_call rfl rfl rfl rfl rfl rfl (fun _ => mNew_ct (r := k) (c := C) (by omega) (by omega)) ?_
      rintro v5 U5 D5 hU5 ⟨_, rfl, ⟨_, rfl, p5, c5, s5, rfl, h5⟩, rfl⟩
      rw [List.nil_append]
      repeat (first | refine run_S ?_ | refine w_box (fun _ => ?_) | refine w_al (fun _ => ?_))
      refine sl_call rfl rfl rfl rfl rfl rfl (fun _ => mIdentity_ct (n := C) (by omega)) ?_
      rintro v6 U6 D6 hU6 ⟨_, rfl, ⟨_, rfl, p6, c6, s6, rfl, h6⟩, rfl⟩
      rw [List.nil_append]
      repeat (first | refine run_S ?_ | refine w_box (fun _ => ?_) | refine w_al (fun _ => ?_))
      refine sl_gdec rfl rfl (fun h => absurd h (by omega)) (fun _ => ?_)
      repeat (first | refine run_S ?_ | refine w_box (fun _ => ?_) | refine w_al (fun _ => ?_))
      refine st_dec rfl (fun h => absurd h (by omega)) (fun _ => ?_)
      repeat (first | refine run_S ?_ | refine w_box (fun _ => ?_) | refine w_al (fun _ => ?_))
      refine st_draw [0, 1, 2, 3, 4, 5, 6, 7, 8] sym (by kernel_rfl) ?_
      repeat (first | refine run_S ?_ | refine w_box (fun _ => ?_) | refine w_al (fun _ => ?_))
      refine sl_gdec rfl rfl (fun h => absurd rfl h) (fun _ => ?_)
      repeat (first | refine run_S ?_ | refine w_box (fun _ => ?_) | refine w_al (fun _ => ?_))
      refine sl_call rfl rfl rfl rfl rfl rfl (fun _ => m9Identity_ct (n := C) (by omega)) ?_
      rintro vh18 Uh18 D hU ⟨h18, rfl⟩
      rw [List.nil_append]
      repeat (first | refine run_S ?_ | refine w_box (fun _ => ?_) | refine w_al (fun _ => ?_))
      repeat (first | refine run_S ?_ | refine w_box (fun _ => ?_) | refine w_al (fun _ => ?_))
      refine sl_call rfl rfl rfl rfl rfl rfl (fun _ => bSameMatrix_ct (kept_m kept_q _ _ _ _ uc ⟨_, rfl, p6, c6, s6, rfl, h6⟩) (kept_m kept_q _ _ _ _ uc h18) (by omega) (by omega)) ?_
      rintro v19 U19 D hU19 ⟨b19, rfl, hb19, rfl, rfl⟩
      rw [List.nil_append]
      obtain rfl := hb19.2 ⟨rfl, rfl, fun _ _ _ _ => rfl⟩
      repeat (first | refine run_S ?_ | refine w_box (fun _ => ?_) | refine w_al (fun _ => ?_))
      refine sl_gdec rfl rfl (fun h => absurd h (by omega)) (fun _ => ?_)
      repeat (first | refine run_S ?_ | refine w_box (fun _ => ?_) | refine w_al (fun _ => ?_))
      refine sl_gdec rfl rfl (fun h => absurd h (by omega)) (fun _ => ?_)
      repeat (first | refine run_S ?_ | refine w_box (fun _ => ?_) | refine w_al (fun _ => ?_))
      refine st_dec rfl (fun h => absurd h (by omega)) (fun _ => ?_)
      repeat (first | refine run_S ?_ | refine w_box (fun _ => ?_) | refine w_al (fun _ => ?_))
      refine st_draw [0, 1, 2, 3, 4, 5, 6, 7, 8, 9, 10, 11, 12, 13, 14, 15, 16, 17, 18, 19, 20, 21, 22, 23, 24, 25] sym (by kernel_rfl) ?_
      repeat (first | refine run_S ?_ | refine w_box (fun _ => ?_) | refine w_al (fun _ => ?_))
      refine sl_gdec rfl rfl (fun h => absurd rfl h) (fun _ => ?_)
      repeat (first | refine run_S ?_ | refine w_box (fun _ => ?_) | refine w_al (fun _ => ?_))
      refine sl_gdec rfl rfl (fun h => absurd rfl h) (fun _ => ?_)
      repeat (first | refine run_S ?_ | refine w_box (fun _ => ?_) | refine w_al (fun _ => ?_))
      refine sl_gdec rfl rfl (fun h => absurd rfl h) (fun _ => ?_)
      repeat (first | refine run_S ?_ | refine w_box (fun _ => ?_) | refine w_al (fun _ => ?_))
      refine sl_call rfl rfl rfl rfl rfl rfl (fun _ => (bZeros_ct (n := C * k) (by omega)).setl kept_q) ?_
      rintro v22 U22 D22 hU22 ⟨h22, rfl⟩
      rw [List.nil_append]
      repeat (first | refine run_S ?_ | refine w_box (fun _ => ?_) | refine w_al (fun _ => ?_))
      refine sl_call rfl rfl rfl rfl rfl rfl (fun _ => bSameRats_ct (m := k * C) (n := C * k) (Ls.up (M' := _) ⟨p5, c5, s5, rfl, h5⟩ kept_q uc sb) (Ls.up (M' := _) h22 kept_q uc sb) (by omega) (by omega)) ?_
      rintro v23 U23 D hU23 ⟨b23, rfl, hb23, rfl, rfl⟩
      rw [List.nil_append]
      obtain rfl := hb23.2 ⟨Nat.mul_comm k C, fun _ _ => rfl⟩
      repeat (first | refine run_S ?_ | refine w_box (fun _ => ?_) | refine w_al (fun _ => ?_))
      refine sl_gdec rfl rfl (fun _ => ?_) (fun h => absurd rfl h)
      repeat (first | refine run_S ?_ | refine w_box (fun _ => ?_) | refine w_al (fun _ => ?_))
      refine sl_call rfl rfl rfl rfl rfl rfl (fun _ => none9_ct) ?_
      rintro v U D hU ⟨rfl, rfl, rfl⟩
      rw [List.nil_append]
      repeat (first | refine run_S ?_ | refine w_box (fun _ => ?_) | refine w_al (fun _ => ?_))
      exact sk_ret [] sym rfl (.cons (.tmp rfl) .nil) uc sb (.inl rfl) rfl
  · have hkb := (hok.1 rfl).2.1
    repeat (first | refine run_S ?_ | refine w_box (fun _ => ?_) | refine w_al (fun _ => ?_))
    refine sl_call rfl rfl rfl rfl rfl rfl (fun _ => mFromRows_ct (b := 1) (c := (C : Int)) (Ls.up (M' := []) hrows kept_rq uc (List.Sublist.refl _)) (by decide) (by omega)) ?_
    rintro v4 U4 D4 hU4 ⟨vM, e, rfl, ht, -, rfl⟩
    rw [List.nil_append]
    obtain ⟨rfl, ⟨_, rfl, p4, c4, s4, rfl, h4⟩⟩ := ht (hok.1 rfl)
    rw [show ((C : Int)).toNat = C from rfl] at h4 ⊢
    clear ht
    have hM : Vm Vq k C U4 (.agg #[.int .i64 (k : Int), .int .i64 (C : Int), .slice p4 (k * C) c4]) (fun i j => (g i).2 j) := ⟨_, rfl, p4, c4, s4, rfl, h4⟩
    repeat (first | refine run_S ?_ | refine w_box (fun _ => ?_) | refine w_al (fun _ => ?_))
    refine sl_call rfl rfl rfl rfl rfl rfl (fun _ => mNew_ct (r := k) (c := C) (by omega) (by omega)) ?_
    rintro v5 U5 D5 hU5 ⟨_, rfl, ⟨_, rfl, p5, c5, s5, rfl, h5⟩, rfl⟩
    rw [List.nil_append]
    repeat (first | refine run_S ?_ | refine w_box (fun _ => ?_) | refine w_al (fun _ => ?_))
    refine sl_call rfl rfl rfl rfl rfl rfl (fun _ => mIdentity_ct (n := C) (by omega)) ?_
    rintro v6 U6 D6 hU6 ⟨_, rfl, ⟨_, rfl, p6, c6, s6, rfl, h6⟩, rfl⟩
    rw [List.nil_append]
    repeat (first | refine run_S ?_ | refine w_box (fun _ => ?_) | refine w_al (fun _ => ?_))
    refine sl_gdec rfl rfl (fun h => absurd h (by omega)) (fun _ => ?_)
    repeat (first | refine run_S ?_ | refine w_box (fun _ => ?_) | refine w_al (fun _ => ?_))
    refine st_dec rfl (fun h => absurd h (by omega)) (fun _ => ?_)
    repeat (first | refine run_S ?_ | refine w_box (fun _ => ?_) | refine w_al (fun _ => ?_))
    refine st_draw [0, 1, 2, 3, 4, 5, 6, 7, 8] sym (by kernel_rfl) ?_
    repeat (first | refine run_S ?_ | refine w_box (fun _ => ?_) | refine w_al (fun _ => ?_))
    refine sl_gdec rfl rfl (fun h => absurd rfl h) (fun _ => ?_)
    repeat (first | refine run_S ?_ | refine w_box (fun _ => ?_) | refine w_al (fun _ => ?_))
    refine sl_call rfl rfl rfl rfl rfl rfl (fun _ => m9Identity_ct (n := C) (by omega)) ?_
    rintro vh18 Uh18 D hU ⟨h18, rfl⟩
    rw [List.nil_append]
    repeat (first | refine run_S ?_ | refine w_box (fun _ => ?_) | refine w_al (fun _ => ?_))
    repeat (first | refine run_S ?_ | refine w_box (fun _ => ?_) | refine w_al (fun _ => ?_))
    refine sl_call rfl rfl rfl rfl rfl rfl (fun _ => bSameMatrix_ct (kept_m kept_q _ _ _ _ uc ⟨_, rfl, p6, c6, s6, rfl, h6⟩) (kept_m kept_q _ _ _ _ uc h18) (by omega) (by omega)) ?_
    rintro v19 U19 D hU19 ⟨b19, rfl, hb19, rfl, rfl⟩
    rw [List.nil_append]
    obtain rfl := hb19.2 ⟨rfl, rfl, fun _ _ _ _ => rfl⟩
    repeat (first | refine run_S ?_ | refine w_box (fun _ => ?_) | refine w_al (fun _ => ?_))
    refine sl_gdec rfl rfl (fun h => absurd h (by omega)) (fun _ => ?_)
    repeat (first | refine run_S ?_ | refine w_box (fun _ => ?_) | refine w_al (fun _ => ?_))
    refine sl_gdec rfl rfl (fun h => absurd h (by omega)) (fun _ => ?_)
    repeat (first | refine run_S ?_ | refine w_box (fun _ => ?_) | refine w_al (fun _ => ?_))
    refine st_dec rfl (fun h => absurd h (by omega)) (fun _ => ?_)
    repeat (first | refine run_S ?_ | refine w_box (fun _ => ?_) | refine w_al (fun _ => ?_))
    refine st_draw [0, 1, 2, 3, 4, 5, 6, 7, 8, 9, 10, 11, 12, 13, 14, 15, 16, 17, 18, 19, 20, 21, 22, 23, 24, 25] sym (by kernel_rfl) ?_
    repeat (first | refine run_S ?_ | refine w_box (fun _ => ?_) | refine w_al (fun _ => ?_))
    refine sl_gdec rfl rfl (fun h => absurd rfl h) (fun _ => ?_)
    repeat (first | refine run_S ?_ | refine w_box (fun _ => ?_) | refine w_al (fun _ => ?_))
    refine sl_gdec rfl rfl (fun h => absurd rfl h) (fun _ => ?_)
    repeat (first | refine run_S ?_ | refine w_box (fun _ => ?_) | refine w_al (fun _ => ?_))
    refine sl_gdec rfl rfl (fun h => absurd rfl h) (fun _ => ?_)
    repeat (first | refine run_S ?_ | refine w_box (fun _ => ?_) | refine w_al (fun _ => ?_))
    refine sl_call rfl rfl rfl rfl rfl rfl (fun _ => (bZeros_ct (n := C * k) (by omega)).setl kept_q) ?_
    rintro v22 U22 D22 hU22 ⟨h22, rfl⟩
    rw [List.nil_append]
    repeat (first | refine run_S ?_ | refine w_box (fun _ => ?_) | refine w_al (fun _ => ?_))
    refine sl_call rfl rfl rfl rfl rfl rfl (fun _ => bSameRats_ct (m := k * C) (n := C * k) (Ls.up (M' := _) ⟨p5, c5, s5, rfl, h5⟩ kept_q uc sb) (Ls.up (M' := _) h22 kept_q uc sb) (by omega) (by omega)) ?_
    rintro v23 U23 D hU23 ⟨b23, rfl, hb23, rfl, rfl⟩
    rw [List.nil_append]
    obtain rfl := hb23.2 ⟨Nat.mul_comm k C, fun _ _ => rfl⟩
    have hsz : ∀ a j, a < k → j < C → Szq ((g a).2 j) 1 := fun a j ha hj => by
      obtain ⟨v7, hv7⟩ := rr.at ha
      obtain ⟨-, h8⟩ := hrs a v7 hv7
      exact Ls.sz h8 (Nat.le_refl 1) (by have := (hok.1 rfl).2.2 a ha; omega)
    have hof : Ls (Wr 1 C) 1 k U1 [] (.slice pr k cr) (fun i j => (g i).2 j) := ⟨pr, cr, rs, rfl, hcr, rr.up uc (List.Sublist.refl _), fun a v hv => by
      have h8 := (hrs a v hv).2
      rw [show (g a).1 = C by have := (hok.1 rfl).2.2 a (rr.lt hv); omega] at h8
      exact h8⟩
    repeat (first | refine run_S ?_ | refine w_box (fun _ => ?_) | refine w_al (fun _ => ?_))
    refine sl_call rfl rfl rfl rfl rfl rfl (fun _ => ct_setm (m9Of_ct (b := 1) (Ls.up (M' := _) hof kept_wr uc sb) (by decide) (by omega) (by omega) (by omega))) ?_
    rintro vh27 Uh27 D hU ⟨h27, rfl⟩
    rw [List.nil_append]
    repeat (first | refine run_S ?_ | refine w_box (fun _ => ?_) | refine w_al (fun _ => ?_))
    obtain ⟨_, rfl, p27, c27, s27, rfl, h27⟩ := h27
    have hW : Vm Vq k C Uh27 (.agg #[.int .i64 (k : Int), .int .i64 (C : Int), .slice p27 (k * C) c27]) (fun i j => (g i).2 j) := ⟨_, rfl, p27, c27, s27, rfl, h27⟩
    by_cases hineg : i < 0
    · repeat (first | refine run_S ?_ | refine w_box (fun _ => ?_) | refine w_al (fun _ => ?_))
      refine sl_call rfl rfl rfl rfl rfl rfl (fun _ => mRow_err (r := k) (c := C) (i := i) (p := p4) (cc := c4) (by omega) (by omega) (by omega)) ?_
      rintro v28 U28 D28 hU28 ⟨rfl, rfl, rfl⟩
      rw [List.nil_append]
      repeat (first | refine run_S ?_ | refine w_box (fun _ => ?_) | refine w_al (fun _ => ?_))
      refine sl_gdec rfl rfl (fun h => absurd rfl h) (fun _ => ?_)
      repeat (first | refine run_S ?_ | refine w_box (fun _ => ?_) | refine w_al (fun _ => ?_))
      refine sl_call rfl rfl rfl rfl rfl rfl (fun _ => bSameMatrix_ct (kept_m kept_q _ _ _ _ uc hM) (kept_m kept_q _ _ _ _ uc hW) (by omega) (by omega)) ?_
      rintro v29 U29 D hU29 ⟨b29, rfl, hb29, rfl, rfl⟩
      rw [List.nil_append]
      obtain rfl := hb29.2 ⟨rfl, rfl, fun _ _ _ _ => rfl⟩
      repeat (first | refine run_S ?_ | refine w_box (fun _ => ?_) | refine w_al (fun _ => ?_))
      refine sl_call rfl rfl rfl rfl rfl rfl (fun _ => mValid_ct (r := (k : Int)) (c := (C : Int)) (n := k * C) (p := p4) (cc := c4) (by omega)) ?_
      rintro v U' D hU ⟨rfl, rfl, rfl⟩
      repeat (first | refine run_S ?_ | refine w_box (fun _ => ?_) | refine w_al (fun _ => ?_))
      rw [decide_eq_true (vld_of (by omega) (by omega))]
      repeat (first | refine run_S ?_ | refine w_box (fun _ => ?_) | refine w_al (fun _ => ?_))
      refine sl_gdec rfl rfl (fun _ => ?_) (fun h => absurd h (by omega))
      repeat (first | refine run_S ?_ | refine w_box (fun _ => ?_) | refine w_al (fun _ => ?_))
      refine sl_gdec rfl rfl (fun _ => ?_) (fun h => absurd rfl h)
      repeat (first | refine run_S ?_ | refine w_box (fun _ => ?_) | refine w_al (fun _ => ?_))
      exact sk_ret [] sym rfl (.cons (.tmp rfl) .nil) uc sb (.inl rfl) (by rw [dec_true (p := ((0 : Nat) : Int) = 0) rfl]; rfl)
    by_cases hige : (k : Int) ≤ i
    · repeat (first | refine run_S ?_ | refine w_box (fun _ => ?_) | refine w_al (fun _ => ?_))
      refine sl_call rfl rfl rfl rfl rfl rfl (fun _ => mRow_err (r := k) (c := C) (i := i) (p := p4) (cc := c4) (by omega) (by omega) (by omega)) ?_
      rintro v28 U28 D28 hU28 ⟨rfl, rfl, rfl⟩
      rw [List.nil_append]
      repeat (first | refine run_S ?_ | refine w_box (fun _ => ?_) | refine w_al (fun _ => ?_))
      refine sl_gdec rfl rfl (fun h => absurd rfl h) (fun _ => ?_)
      repeat (first | refine run_S ?_ | refine w_box (fun _ => ?_) | refine w_al (fun _ => ?_))
      refine sl_call rfl rfl rfl rfl rfl rfl (fun _ => bSameMatrix_ct (kept_m kept_q _ _ _ _ uc hM) (kept_m kept_q _ _ _ _ uc hW) (by omega) (by omega)) ?_
      rintro v29 U29 D hU29 ⟨b29, rfl, hb29, rfl, rfl⟩
      rw [List.nil_append]
      obtain rfl := hb29.2 ⟨rfl, rfl, fun _ _ _ _ => rfl⟩
      repeat (first | refine run_S ?_ | refine w_box (fun _ => ?_) | refine w_al (fun _ => ?_))
      refine sl_call rfl rfl rfl rfl rfl rfl (fun _ => mValid_ct (r := (k : Int)) (c := (C : Int)) (n := k * C) (p := p4) (cc := c4) (by omega)) ?_
      rintro v U' D hU ⟨rfl, rfl, rfl⟩
      repeat (first | refine run_S ?_ | refine w_box (fun _ => ?_) | refine w_al (fun _ => ?_))
      rw [decide_eq_true (vld_of (by omega) (by omega))]
      repeat (first | refine run_S ?_ | refine w_box (fun _ => ?_) | refine w_al (fun _ => ?_))
      refine sl_gdec rfl rfl (fun h => absurd h (by omega)) (fun _ => ?_)
      repeat (first | refine run_S ?_ | refine w_box (fun _ => ?_) | refine w_al (fun _ => ?_))
      refine st_dec rfl (fun _ => ?_) (fun h => absurd h (by omega))
      repeat (first | refine run_S ?_ | refine w_box (fun _ => ?_) | refine w_al (fun _ => ?_))
      refine sl_gdec rfl rfl (fun _ => ?_) (fun h => absurd rfl h)
      repeat (first | refine run_S ?_ | refine w_box (fun _ => ?_) | refine w_al (fun _ => ?_))
      exact sk_ret [] sym rfl (.cons (.tmp rfl) .nil) uc sb (.inl rfl) (by rw [dec_true (p := ((0 : Nat) : Int) = 0) rfl]; rfl)
    obtain ⟨I, rfl⟩ := Int.eq_ofNat_of_zero_le (show 0 ≤ i by omega)
    have hIk : I < k := by omega
    repeat (first | refine run_S ?_ | refine w_box (fun _ => ?_) | refine w_al (fun _ => ?_))
    refine sl_call rfl rfl rfl rfl rfl rfl (fun _ => mRow_ct (i := I) (kept_m kept_w _ _ _ _ uc (hM.w hsz)) (by decide) hIk (by omega) (by omega)) ?_
    rintro v28 U28 D28 hU28 ⟨_, rfl, ⟨p28, c28, s28, rfl, h28⟩, rfl⟩
    rw [List.nil_append]
    repeat (first | refine run_S ?_ | refine w_box (fun _ => ?_) | refine w_al (fun _ => ?_))
    refine sl_gdec rfl rfl (fun h => absurd rfl h) (fun _ => ?_)
    repeat (first | refine run_S ?_ | refine w_box (fun _ => ?_) | refine w_al (fun _ => ?_))
    refine sl_call rfl rfl rfl rfl rfl rfl (fun _ => bSameMatrix_ct (kept_m kept_q _ _ _ _ uc hM) (kept_m kept_q _ _ _ _ uc hW) (by omega) (by omega)) ?_
    rintro v29 U29 D hU29 ⟨b29, rfl, hb29, rfl, rfl⟩
    rw [List.nil_append]
    obtain rfl := hb29.2 ⟨rfl, rfl, fun _ _ _ _ => rfl⟩
    repeat (first | refine run_S ?_ | refine w_box (fun _ => ?_) | refine w_al (fun _ => ?_))
    refine sl_call rfl rfl rfl rfl rfl rfl (fun _ => mValid_ct (r := (k : Int)) (c := (C : Int)) (n := k * C) (p := p4) (cc := c4) (by omega)) ?_
    rintro v U' D hU ⟨rfl, rfl, rfl⟩
    repeat (first | refine run_S ?_ | refine w_box (fun _ => ?_) | refine w_al (fun _ => ?_))
    rw [decide_eq_true (vld_of (by omega) (by omega))]
    repeat (first | refine run_S ?_ | refine w_box (fun _ => ?_) | refine w_al (fun _ => ?_))
    refine sl_gdec rfl rfl (fun h => absurd h (by omega)) (fun _ => ?_)
    repeat (first | refine run_S ?_ | refine w_box (fun _ => ?_) | refine w_al (fun _ => ?_))
    refine st_dec rfl (fun h => absurd h (by omega)) (fun _ => ?_)
    repeat (first | refine run_S ?_ | refine w_box (fun _ => ?_) | refine w_al (fun _ => ?_))
    refine sl_gdec rfl rfl (fun _ => ?_) (fun h => absurd rfl h)
    repeat (first | refine run_S ?_ | refine w_box (fun _ => ?_) | refine w_al (fun _ => ?_))
    refine sl_call rfl rfl rfl rfl rfl rfl (fun _ => ct_setg (m9Rows_co (kept_m kept_w _ _ _ _ uc (hW.w hsz)) (by decide) (by omega) (by omega) (by omega))) ?_
    rintro v30 U30 D30 hU30 ⟨⟨p30, c30, s30, rfl, hc30, r30, e30⟩, rfl⟩
    rw [List.nil_append]
    obtain ⟨v31, hv31⟩ := r30.at hIk
    have h31 := e30 _ _ hv31
    obtain ⟨p31, c31, s31, rfl, -⟩ := id h31
    try refine run_s ?_
    refine sl_y (yl_index sym rfl rfl rfl rfl rfl rfl ((r30.up uc sb).lt hv31) ((r30.up uc sb).get _ _ hv31).1) rfl rfl rfl rfl ?_; refine sl_y (yl_loadR1 sym rfl rfl rfl rfl (r30.up uc sb) hv31 rfl) rfl rfl rfl rfl ?_
    try refine run_s ?_
    refine sl_call rfl rfl rfl rfl rfl rfl (fun _ => bSameRats_ct (m := C) (n := C) (Ls.up (M' := _) ⟨p28, c28, s28, rfl, h28⟩ kept_q uc sb) (h31.ls uc) (by omega) (by omega)) ?_
    rintro v32 U32 D hU32 ⟨b32, rfl, hb32, rfl, rfl⟩
    rw [List.nil_append]
    obtain rfl := hb32.2 ⟨rfl, fun _ _ => rfl⟩
    repeat (first | refine run_S ?_ | refine w_box (fun _ => ?_) | refine w_al (fun _ => ?_))
    exact sk_ret [] sym rfl (.cons (.tmp rfl) .nil) uc sb (.inl rfl) rfl

end Go.Proofs.YtcfgogamamdipaaGreat
