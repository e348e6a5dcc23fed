/- Texts of this seat's own, merged: each begins with its own remark. -/
import Derived.Test.YtocjmbilepbokaaGreatM32
/- Walks of the helpers of layer 10's statements: awake. -/
namespace Go.Proofs.YtocjmbilepbokaaGreat
open Go.Hp
variable {G : World} {U U' : UH} {M M' : MH}

abbrev a10S : Nat → Nat → Rat := zz [[1, 1, 0], [0, 0, 1]]
abbrev a10T : Nat → Nat → Rat := zz [[1, 0, 0], [0, 1, 1]]
abbrev a10I : Nat → Nat → Rat := zz [[1, 1, 1]]
abbrev a10V : Nat → Rat := fun i => ((([2, 2, 5] : List Int).getD i 0 : Int) : Rat)
theorem a10_s : La.Ech 2 3 a10S (fun i => if i = 0 then 0 else 2) := by
  refine ⟨fun i hi => ?_, fun i k hik hk => ?_, fun i k hi hk => ?_, fun i j hi hj => ?_⟩
  · split <;> omega
  · rw [if_pos (by omega), if_neg (by omega)]; omega
  · rcases show i = 0 ∨ i = 1 by omega with rfl | rfl <;> rcases show k = 0 ∨ k = 1 by omega with rfl | rfl <;> rfl
  · rcases show i = 0 ∨ i = 1 by omega with rfl | rfl
    · simp at hj
    · rcases show j = 0 ∨ j = 1 by (simp at hj; omega) with rfl | rfl <;> rfl
theorem a10_t : La.Ech 2 3 a10T (fun i => i) := by
  refine ⟨fun i hi => by omega, fun i k hik hk => hik, fun i k hi hk => ?_, fun i j hi hj => ?_⟩
  · rcases show i = 0 ∨ i = 1 by omega with rfl | rfl <;> rcases show k = 0 ∨ k = 1 by omega with rfl | rfl <;> rfl
  · rcases show i = 0 ∨ i = 1 by omega with rfl | rfl
    · omega
    · rcases show j = 0 by omega with rfl; rfl
theorem a10_i : La.Ech 1 3 a10I (fun _ => 0) := by
  refine ⟨fun i hi => by omega, fun i k hik hk => by omega, fun i k hi hk => ?_, fun i j hi hj => by omega⟩
  rcases show i = 0 by omega with rfl; rcases show k = 0 by omega with rfl; rfl
theorem sm_two (f : Nat → Rat) : La.sm 2 f = 0 + f 0 + f 1 := rfl
theorem sm_one' (f : Nat → Rat) : La.sm 1 f = 0 + f 0 := rfl
theorem a10_both {x : Nat → Rat} (hS : La.Sp 2 3 a10S x) (hT : La.Sp 2 3 a10T x) : La.Sp 1 3 a10I x := by
  obtain ⟨c, hc⟩ := hS
  obtain ⟨d, hd⟩ := hT
  have c0 := hc 0 (by decide)
  have c1 := hc 1 (by decide)
  have d1 := hd 1 (by decide)
  have d2 := hd 2 (by decide)
  rw [sm_two] at c0 c1 d1 d2
  rw [show a10S 0 0 = 1 from of_decide_eq_true (by kernel_rfl), show a10S 1 0 = 0 from of_decide_eq_true (by kernel_rfl)] at c0
  rw [show a10S 0 1 = 1 from of_decide_eq_true (by kernel_rfl), show a10S 1 1 = 0 from of_decide_eq_true (by kernel_rfl)] at c1
  rw [show a10T 0 1 = 0 from of_decide_eq_true (by kernel_rfl), show a10T 1 1 = 1 from of_decide_eq_true (by kernel_rfl)] at d1
  rw [show a10T 0 2 = 0 from of_decide_eq_true (by kernel_rfl), show a10T 1 2 = 1 from of_decide_eq_true (by kernel_rfl)] at d2
  refine ⟨fun _ => x 0, fun j hj => ?_⟩
  rw [sm_one']
  have e : ∀ j, j < 3 → a10I 0 j = 1 := fun j hj => by
    rcases show j = 0 ∨ j = 1 ∨ j = 2 by omega with rfl | rfl | rfl <;> exact of_decide_eq_true (by kernel_rfl)
  rw [e j hj]
  rcases show j = 0 ∨ j = 1 ∨ j = 2 by omega with rfl | rfl | rfl <;> grind
theorem a10_in : La.Sp 2 3 a10S (a10I 0) ∧ La.Sp 2 3 a10T (a10I 0) := by
  refine ⟨⟨fun _ => 1, fun j hj => ?_⟩, ⟨fun _ => 1, fun j hj => ?_⟩⟩ <;> rcases show j = 0 ∨ j = 1 ∨ j = 2 by omega with rfl | rfl | rfl <;> exact of_decide_eq_true (by kernel_rfl)
theorem a10_v : La.Sp 2 3 a10S a10V := by
  refine ⟨fun k => if k = 0 then 2 else 5, fun j hj => ?_⟩
  rcases show j = 0 ∨ j = 1 ∨ j = 2 by omega with rfl | rfl | rfl <;> exact of_decide_eq_true (by kernel_rfl)

theorem Sv.congr {ok : UH → Value → Rat → Prop} {r n : Nat} {v : Value} {A B : Nat → Nat → Rat} (h : Sv ok r n U v A) (e : ∀ i j, i < r → j < n → A i j = B i j) : Sv ok r n U v B := by
  obtain ⟨a, h1, h2⟩ := h
  exact ⟨a, h1, h2.congr fun k hk => e _ _ (fl_lt hk).1 (fl_lt hk).2⟩

theorem one_rows {α : Type} {P : Nat → α → Prop} {a : α} (h0 : P 0 a) : ∀ k v, [a][k]? = some v → P k v
  | 0, v, h => by cases h; exact h0
  | k + 1, v, h => by simp at h

set_option maxRecDepth 100000 in
set_option maxHeartbeats 2000000 in
theorem awake10_ct : Ct Tryz.prog 12 [] G U M fun v U' D => v = .bool true ∧ ULe U U' ∧ D = [] := by
  have small : ∀ ls : List (List Int), (ls.all fun l => l.all fun z => decide (z.natAbs < 4294967296)) = true → ∀ l ∈ ls, ∀ z ∈ l, z.natAbs < 4294967296 := fun ls h l hl z hz => of_decide_eq_true (List.all_eq_true.1 (List.all_eq_true.1 h l hl) z hz)
  have rng : ∀ l : List Int, (l.all fun z => decide (-9223372036854775808 ≤ z ∧ z ≤ 9223372036854775807)) = true → ∀ z ∈ l, -9223372036854775808 ≤ z ∧ z ≤ 9223372036854775807 := fun l h z hz => of_decide_eq_true (List.all_eq_true.1 h z hz)
  refine ct_of_st Tryz.func12 rfl rfl rfl rfl ?_
  repeat (first | refine run_S ?_ | refine w_box (fun _ => ?_) | refine w_al (fun _ => ?_))
  refine sl_bslice (vs := [.int .i64 1, .int .i64 1, .int .i64 0]) sym rfl rfl rfl rfl rfl rfl (all_size rfl) rfl rfl rfl rfl rfl rfl (fun b7 => ?_)
  refine sl_bslice (vs := [.int .i64 0, .int .i64 0, .int .i64 1]) sym rfl rfl rfl rfl rfl rfl (all_size rfl) rfl rfl rfl rfl rfl rfl (fun b8 => ?_)
  refine sl_bslice (vs := [.slice (some ⟨b7, 0, none⟩) 3 3, .slice (some ⟨b8, 0, none⟩) 3 3]) sym rfl rfl rfl rfl rfl rfl (all_size rfl) rfl rfl rfl rfl rfl rfl (fun b9 => ?_)
  refine sl_call rfl rfl rfl rfl rfl rfl (fun _ => ct_setm (bRows_ct (r := 2) (c := 3) (lit_rows (ls := [[1, 1, 0], [0, 0, 1]]) rfl (by decide) (two_rows (lit_row (l := [1, 1, 0]) (e := TInt) (rng _ rfl) rfl (by decide) sb) (lit_row (l := [0, 0, 1]) (e := TInt) (rng _ rfl) rfl (by decide) sb)) sb) (by decide) (by decide) (by decide))) ?_
  rintro vh1 Uh1 D hU ⟨h1, rfl⟩
  rw [List.nil_append]
  repeat (first | refine run_S ?_ | refine w_box (fun _ => ?_) | refine w_al (fun _ => ?_))
  have z1 : ∀ i j, i < 2 → j < 3 → Szq (a10S i j) 1 := fun i j _ _ => zz_sz (small _ rfl) i j
  refine sl_call rfl rfl rfl rfl rfl rfl (fun _ => sSpan_ct (b := 1) (h1.w z1) (by decide) (by decide) (by decide) (by decide)) ?_
  rintro v2 U2 D2 hU2 ⟨r1, R1, q1, _, rfl, hS1, hE1, hs1, rfl⟩
  try rw [List.nil_append]
  obtain ⟨rfl, -, e1⟩ := a10_s.unique hE1 hs1.symm
  replace hS1 := hS1.congr (B := a10S) fun i j hi hj => (e1 i j hi hj).symm
  have hS1w := hS1.w z1
  obtain ⟨_, rfl, p1, c1, s1, rfl, -⟩ := id hS1
  repeat (first | refine run_S ?_ | refine w_box (fun _ => ?_) | refine w_al (fun _ => ?_))
  refine st_draw [0, 1, 2, 3, 4, 5, 6, 7, 8] sym (by kernel_rfl) ?_
  repeat (first | refine run_S ?_ | refine w_box (fun _ => ?_) | refine w_al (fun _ => ?_))
  refine sl_bslice (vs := [.int .i64 2, .int .i64 2, .int .i64 5]) sym rfl rfl rfl rfl rfl rfl (all_size rfl) rfl rfl rfl rfl rfl rfl (fun c7 => ?_)
  refine sl_call rfl rfl rfl rfl rfl rfl (fun _ => (bQs_ct (n := 3) (lit_row (l := [2, 2, 5]) (e := TInt) (rng _ rfl) rfl (by decide) sb) (by decide)).setl kept_q) ?_
  rintro v3 U3 D3 hU3 ⟨h3, rfl⟩
  try rw [List.nil_append]
  have h3w : Ls (Wq 1) 4 3 U3 [] v3 a10V := Ls.toW h3 fun j hj => by rcases show j = 0 ∨ j = 1 ∨ j = 2 by omega with rfl | rfl | rfl <;> exact szq_small (by decide)
  obtain ⟨p3, c3, s3, rfl, -⟩ := id h3
  refine sl_call rfl rfl rfl rfl rfl rfl (fun _ => sCoordinates_ct (kept_s kept_w _ _ _ _ uc hS1w) a10_s h3w (by decide) (by decide) (by decide) (by decide) (by decide)) ?_
  rintro v4 U4 D4 hU4 ⟨vc, e4, rfl, -, he4, hc4, -, rfl⟩
  try rw [List.nil_append]
  obtain rfl := he4.2 a10_v
  have hc4 := hc4 rfl
  obtain ⟨p4, c4, s4, rfl, -⟩ := id hc4
  repeat (first | refine run_S ?_ | refine w_box (fun _ => ?_) | refine w_al (fun _ => ?_))
  refine sl_bslice (vs := [.int .i64 1, .int .i64 0, .int .i64 0]) sym rfl rfl rfl rfl rfl rfl (all_size rfl) rfl rfl rfl rfl rfl rfl (fun d7 => ?_)
  refine sl_bslice (vs := [.int .i64 0, .int .i64 1, .int .i64 1]) sym rfl rfl rfl rfl rfl rfl (all_size rfl) rfl rfl rfl rfl rfl rfl (fun d8 => ?_)
  refine sl_bslice (vs := [.slice (some ⟨d7, 0, none⟩) 3 3, .slice (some ⟨d8, 0, none⟩) 3 3]) sym rfl rfl rfl rfl rfl rfl (all_size rfl) rfl rfl rfl rfl rfl rfl (fun d9 => ?_)
  refine sl_call rfl rfl rfl rfl rfl rfl (fun _ => ct_setm (bRows_ct (r := 2) (c := 3) (lit_rows (ls := [[1, 0, 0], [0, 1, 1]]) rfl (by decide) (two_rows (lit_row (l := [1, 0, 0]) (e := TInt) (rng _ rfl) rfl (by decide) sb) (lit_row (l := [0, 1, 1]) (e := TInt) (rng _ rfl) rfl (by decide) sb)) sb) (by decide) (by decide) (by decide))) ?_
  rintro vh5 Uh5 D hU ⟨h5, rfl⟩
  rw [List.nil_append]
  repeat (first | refine run_S ?_ | refine w_box (fun _ => ?_) | refine w_al (fun _ => ?_))
  have z5 : ∀ i j, i < 2 → j < 3 → Szq (a10T i j) 1 := fun i j _ _ => zz_sz (small _ rfl) i j
  refine sl_call rfl rfl rfl rfl rfl rfl (fun _ => sSpan_ct (b := 1) (h5.w z5) (by decide) (by decide) (by decide) (by decide)) ?_
  rintro v6 U6 D6 hU6 ⟨r6, R6, q6, _, rfl, hS6, hE6, hs6, rfl⟩
  try rw [List.nil_append]
  obtain ⟨rfl, -, e6⟩ := a10_t.unique hE6 hs6.symm
  replace hS6 := hS6.congr (B := a10T) fun i j hi hj => (e6 i j hi hj).symm
  have hS6w := hS6.w z5
  obtain ⟨_, rfl, p6, c6, s6, rfl, -⟩ := id hS6
  repeat (first | refine run_S ?_ | refine w_box (fun _ => ?_) | refine w_al (fun _ => ?_))
  refine sl_call rfl rfl rfl rfl rfl rfl (fun _ => sIntersect_ok (w := 1 * 37 + 1) (kept_s kept_w _ _ _ _ uc hS1w) (kept_s kept_w _ _ _ _ uc hS6w) a10_s a10_t (hw_short (a := 1) z1 (by decide) (by decide)) (hw_short (a := 1) z5 (by decide) (by decide)) (by decide) (by decide) (by decide) (by decide)) ?_
  rintro v7 U7 D7 hU7 ⟨_, i7, I, q7, rfl, h7, hE7, hm7, -, rfl⟩
  try rw [List.nil_append]
  have hs7 : La.Same i7 1 3 I a10I := ⟨fun i hi => by
    obtain ⟨g1, g2⟩ := (hm7 _).1 (La.Sp.row hi)
    exact a10_both g1 g2, fun i hi => by
    rcases show i = 0 by omega with rfl
    exact (hm7 _).2 a10_in⟩
  obtain ⟨rfl, -, e7⟩ := hE7.unique a10_i hs7
  obtain ⟨_, rfl, p7, c7', s7, rfl, -⟩ := id h7
  repeat (first | refine run_S ?_ | refine w_box (fun _ => ?_) | refine w_al (fun _ => ?_))
  refine st_draw [0, 1, 2, 3, 4, 5, 6, 7, 8, 9, 10, 11, 12, 13, 14, 15, 16, 17, 18, 19, 20, 21, 22, 23, 24, 25, 26, 27, 28] sym (by kernel_rfl) ?_
  repeat (first | refine run_S ?_ | refine w_box (fun _ => ?_) | refine w_al (fun _ => ?_))
  refine sl_gdec rfl rfl (fun _ => ?_) (fun h => absurd rfl h)
  repeat (first | refine run_S ?_ | refine w_box (fun _ => ?_) | refine w_al (fun _ => ?_))
  refine sl_gdec rfl rfl (fun _ => ?_) (fun h => absurd rfl h)
  repeat (first | refine run_S ?_ | refine w_box (fun _ => ?_) | refine w_al (fun _ => ?_))
  refine sl_gdec rfl rfl (fun _ => ?_) (fun h => absurd rfl h)
  repeat (first | refine run_S ?_ | refine w_box (fun _ => ?_) | refine w_al (fun _ => ?_))
  refine sl_gdec rfl rfl (fun _ => ?_) (fun h => absurd rfl h)
  repeat (first | refine run_S ?_ | refine w_box (fun _ => ?_) | refine w_al (fun _ => ?_))
  refine sl_bslice (vs := [.int .i64 2, .int .i64 5]) sym rfl rfl rfl rfl rfl rfl (all_size rfl) rfl rfl rfl rfl rfl rfl (fun g7 => ?_)
  refine sl_call rfl rfl rfl rfl rfl rfl (fun _ => (bQs_ct (n := 2) (lit_row (l := [2, 5]) (e := TInt) (rng _ rfl) rfl (by decide) sb) (by decide)).setl kept_q) ?_
  rintro v8 U8 D8 hU8 ⟨h8, rfl⟩
  try rw [List.nil_append]
  refine sl_call rfl rfl rfl rfl rfl rfl (fun _ => bSameRats_ct (Ls.up (M' := _) hc4 kept_q uc (List.nil_sublist _)) (Ls.up (M' := _) h8 kept_q uc (List.nil_sublist _)) (by decide) (by decide)) ?_
  rintro v9 U9 D9 hU9 ⟨b, rfl, hb, rfl, rfl⟩
  try rw [List.nil_append]
  obtain rfl := hb.2 ⟨rfl, fun i hi => by
    rcases show i = 0 ∨ i = 1 by omega with rfl | rfl <;> rfl⟩
  repeat (first | refine run_S ?_ | refine w_box (fun _ => ?_) | refine w_al (fun _ => ?_))
  refine sl_bslice (vs := [.int .i64 1, .int .i64 1, .int .i64 1]) sym rfl rfl rfl rfl rfl rfl (all_size rfl) rfl rfl rfl rfl rfl rfl (fun g8 => ?_)
  refine sl_bslice (vs := [.slice (some ⟨g8, 0, none⟩) 3 3]) sym rfl rfl rfl rfl rfl rfl (all_size rfl) rfl rfl rfl rfl rfl rfl (fun g9 => ?_)
  refine sl_call rfl rfl rfl rfl rfl rfl (fun _ => ct_setm (bRows_ct (r := 1) (c := 3) (lit_rows (ls := [[1, 1, 1]]) rfl (by decide) (one_rows (lit_row (l := [1, 1, 1]) (e := TInt) (rng _ rfl) rfl (by decide) sb)) sb) (by decide) (by decide) (by decide))) ?_
  rintro vh10 Uh10 D hU ⟨h10, rfl⟩
  rw [List.nil_append]
  repeat (first | refine run_S ?_ | refine w_box (fun _ => ?_) | refine w_al (fun _ => ?_))
  refine sl_call rfl rfl rfl rfl rfl rfl (fun _ => bSameMatrix_ct (kept_m kept_q _ _ _ _ uc h7.vm) h10 (by decide) (by decide)) ?_
  rintro v11 U11 D11 hU11 ⟨b, rfl, hb, rfl, rfl⟩
  try rw [List.nil_append]
  obtain rfl := hb.2 ⟨rfl, rfl, e7⟩
  repeat (first | refine run_S ?_ | refine w_box (fun _ => ?_) | refine w_al (fun _ => ?_))
  exact sk_ret [] sym rfl (.cons (.tmp rfl) .nil) uc sb (.inl rfl) ⟨rfl, uc, rfl⟩

end Go.Proofs.YtocjmbilepbokaaGreat

/- Walks of subspace: what is refused. -/
namespace Go.Proofs.YtocjmbilepbokaaGreat
open Go.Hp
variable {G : World} {U U' : UH} {M M' : MH}

theorem LitS.form {v : Value} {d r c : Int} {n : Nat} {f : Nat → Rat} (h : LitS U v d r c n f) : ∃ (p : Option Addr) (cc : Nat), v = .agg #[.int .i64 d, .int .i64 r, .int .i64 c, .slice p n cc] ∧ n ≤ 36 := by
  obtain ⟨a, rfl, hn, -, _, he, p, cc, vs, rfl, -⟩ := h
  simp only [Value.agg.injEq, Array.mk.injEq, List.cons.injEq, and_true, true_and] at he
  subst he
  exact ⟨p, cc, rfl, hn⟩
theorem Lit.form {v : Value} {r c : Int} {n : Nat} {f : Nat → Rat} (h : Lit 6 U v r c n f) : ∃ (p : Option Addr) (cc : Nat), v = .agg #[.int .i64 r, .int .i64 c, .slice p n cc] ∧ n ≤ 36 := by
  obtain ⟨hn, -, _, rfl, p, cc, vs, rfl, -⟩ := h
  exact ⟨p, cc, rfl, hn⟩

/-- What has the form of a space, of a matrix. -/
def SpF (x : Value) : Prop := ∃ (d r c : Int) (p : Option Addr) (n cc : Nat), x = .agg #[.int .i64 d, .int .i64 r, .int .i64 c, .slice p n cc]
def MtF (x : Value) : Prop := ∃ (r c : Int) (p : Option Addr) (n cc : Nat), x = .agg #[.int .i64 r, .int .i64 c, .slice p n cc]
def BoF (x : Value) : Prop := ∃ b : Bool, x = .bool b
theorem Sv.form {ok : UH → Value → Rat → Prop} {r n : Nat} {v : Value} {A : Nat → Nat → Rat} (h : Sv ok r n U v A) : SpF v := by
  obtain ⟨_, rfl, p, c, vs, rfl, -⟩ := h; exact ⟨_, _, _, _, _, _, rfl⟩
theorem Vm.form {ok : UH → Value → Rat → Prop} {r n : Nat} {v : Value} {A : Nat → Nat → Rat} (h : Vm ok r n U v A) : MtF v := by
  obtain ⟨_, rfl, p, c, vs, rfl, -⟩ := h; exact ⟨_, _, _, _, _, rfl⟩

/-- The error of a pair. -/
def PErr (a b : Prop) (da db e : Int) : Prop := (e = 0 ∨ e = 3 ∨ e = 4) ∧ (e = 0 ↔ (a ∧ b) ∧ da = db) ∧ (e = 3 ↔ ¬ (a ∧ b))

theorem spair_e {va vb : Value} {da ra ca db rb cb : Int} {na nb : Nat} {fa fb : Nat → Rat} (ha : LitS U va da ra ca na fa) (hb : LitS U vb db rb cb nb fb) :
    Ct Tryz.prog 60 [va, vb] G U M fun v _ D => D = [] ∧ ∃ e : Int, v = .int .i64 e ∧ PErr (VldS da ra ca na fa) (VldS db rb cb nb fb) da db e := by
  obtain ⟨pa, cca, rfl, -⟩ := ha.form
  obtain ⟨pb, ccb, rfl, -⟩ := hb.form
  refine ct_of_st Tryz.func60 rfl rfl rfl rfl ?_
  repeat (first | refine run_S ?_ | refine w_box (fun _ => ?_) | refine w_al (fun _ => ?_))
  refine sl_call rfl rfl rfl rfl rfl rfl (fun _ => sCheck_any (ha.up uc)) ?_
  rintro v1 U1 D1 hU1 ⟨rfl, e1, rfl, he1, hv1⟩
  try rw [List.nil_append]
  repeat (first | refine run_S ?_ | refine w_box (fun _ => ?_) | refine w_al (fun _ => ?_))
  refine sl_gdec rfl rfl (fun h1 => ?_) (fun h1 => ?_)
  · have hno : ¬ (VldS da ra ca na fa ∧ VldS db rb cb nb fb) := fun h => h1 (hv1.2 h.1)
    repeat (first | refine run_S ?_ | refine w_box (fun _ => ?_) | refine w_al (fun _ => ?_))
    exact sk_ret [] sym rfl (.cons (.tmp rfl) .nil) uc sb (.inl rfl) ⟨rfl, 3, rfl, .inr (.inl rfl), ⟨(fun h => by cases h), fun h => absurd h.1 hno⟩, fun _ => hno, fun _ => rfl⟩
  have hVa := hv1.1 (Classical.not_not.1 h1)
  repeat (first | refine run_S ?_ | refine w_box (fun _ => ?_) | refine w_al (fun _ => ?_))
  refine sl_call rfl rfl rfl rfl rfl rfl (fun _ => sCheck_any (hb.up uc)) ?_
  rintro v2 U2 D2 hU2 ⟨rfl, e2, rfl, he2, hv2⟩
  try rw [List.nil_append]
  repeat (first | refine run_S ?_ | refine w_box (fun _ => ?_) | refine w_al (fun _ => ?_))
  refine st_ne rfl (fun h2 => ?_) (fun h2 => ?_)
  · have hno : ¬ (VldS da ra ca na fa ∧ VldS db rb cb nb fb) := fun h => h2 (hv2.2 h.2)
    repeat (first | refine run_S ?_ | refine w_box (fun _ => ?_) | refine w_al (fun _ => ?_))
    exact sk_ret [] sym rfl (.cons (.tmp rfl) .nil) uc sb (.inl rfl) ⟨rfl, 3, rfl, .inr (.inl rfl), ⟨(fun h => by cases h), fun h => absurd h.1 hno⟩, fun _ => hno, fun _ => rfl⟩
  have hVb := hv2.1 (by omega)
  repeat (first | refine run_S ?_ | refine w_box (fun _ => ?_) | refine w_al (fun _ => ?_))
  refine st_ne rfl (fun h3 => ?_) (fun h3 => ?_)
  · repeat (first | refine run_S ?_ | refine w_box (fun _ => ?_) | refine w_al (fun _ => ?_))
    exact sk_ret [] sym rfl (.cons (.tmp rfl) .nil) uc sb (.inl rfl) ⟨rfl, 4, rfl, .inr (.inr rfl), ⟨(fun h => by cases h), fun h => absurd h.2 h3⟩, (fun h => by cases h), fun h => absurd ⟨hVa, hVb⟩ h⟩
  · repeat (first | refine run_S ?_ | refine w_box (fun _ => ?_) | refine w_al (fun _ => ?_))
    exact sk_ret [] sym rfl (.cons (.tmp rfl) .nil) uc sb (.inl rfl) ⟨rfl, 0, rfl, .inl rfl, ⟨fun _ => ⟨⟨hVa, hVb⟩, by omega⟩, fun _ => rfl⟩, (fun h => by cases h), fun h => absurd ⟨hVa, hVb⟩ h⟩

theorem PErr.ok {a b : Prop} {da db : Int} (ha : a) (hb : b) (hd : da = db) : PErr a b da db 0 := ⟨.inl rfl, ⟨fun _ => ⟨⟨ha, hb⟩, hd⟩, fun _ => rfl⟩, (fun h => by cases h), fun h => absurd ⟨ha, hb⟩ h⟩

theorem sSum_e {va vb : Value} {da ra ca db rb cb : Int} {na nb : Nat} {fa fb : Nat → Rat} (ha : LitS U va da ra ca na fa) (hb : LitS U vb db rb cb nb fb) :
    Ct Tryz.prog 15 [va, vb] G U M fun v _ D => D = [] ∧ ∃ (x : Value) (e : Int), v = .tuple #[x, .int .i64 e] ∧ SpF x ∧ PErr (VldS da ra ca na fa) (VldS db rb cb nb fb) da db e := by
  by_cases h : (VldS da ra ca na fa ∧ VldS db rb cb nb fb) ∧ da = db
  · obtain ⟨Ra, Ca, qa, e1, -, -, h1, h2, h3, h4⟩ := h.1.1.get ha
    obtain ⟨Rb, Cb, qb, e2, -, -, h5, h6, h7, h8⟩ := h.1.2.get hb
    obtain rfl : Cb = Ca := by have := h.2; omega
    exact (sSum_ok h3 h7 h4 h8 (by decide) (by decide) h2).mono fun _ _ _ _ ⟨x, _, _, _, hv, hS, _, _, hD⟩ => ⟨hD, _, 0, hv, hS.form, PErr.ok h.1.1 h.1.2 h.2⟩
  obtain ⟨pa, cca, rfl, -⟩ := ha.form
  obtain ⟨pb, ccb, rfl, -⟩ := hb.form
  refine ct_of_st Tryz.func15 rfl rfl rfl rfl ?_
  repeat (first | refine run_S ?_ | refine w_box (fun _ => ?_) | refine w_al (fun _ => ?_))
  refine sl_call rfl rfl rfl rfl rfl rfl (fun _ => spair_e (ha.up uc) (hb.up uc)) ?_
  rintro v1 U1 D1 hU1 ⟨rfl, e, rfl, he⟩
  try rw [List.nil_append]
  repeat (first | refine run_S ?_ | refine w_box (fun _ => ?_) | refine w_al (fun _ => ?_))
  refine st_ne rfl (fun h1 => ?_) (fun h1 => absurd (he.2.1.1 (by omega)) h)
  repeat (first | refine run_S ?_ | refine w_box (fun _ => ?_) | refine w_al (fun _ => ?_))
  exact sk_ret [] sym rfl (.cons (.cell 0 rfl rfl rfl) (.cons (.tmp rfl) .nil)) uc sb (.inl rfl) ⟨rfl, _, e, rfl, ⟨_, _, _, _, _, _, rfl⟩, he⟩

theorem sIntersect_e {va vb : Value} {da ra ca db rb cb : Int} {na nb : Nat} {fa fb : Nat → Rat} (ha : LitS U va da ra ca na fa) (hb : LitS U vb db rb cb nb fb) :
    Ct Tryz.prog 14 [va, vb] G U M fun v _ D => D = [] ∧ ∃ (x : Value) (e : Int), v = .tuple #[x, .int .i64 e] ∧ SpF x ∧ PErr (VldS da ra ca na fa) (VldS db rb cb nb fb) da db e := by
  by_cases h : (VldS da ra ca na fa ∧ VldS db rb cb nb fb) ∧ da = db
  · obtain ⟨Ra, Ca, qa, e1, -, -, h1, h2, h3, h4⟩ := h.1.1.get ha
    obtain ⟨Rb, Cb, qb, e2, -, -, h5, h6, h7, h8⟩ := h.1.2.get hb
    obtain rfl : Cb = Ca := by have := h.2; omega
    exact (sIntersect_ok (w := 1 * 37 + 1) h3 h7 h4 h8 (hw_short (a := 1) (fun i j hi hj => h3.sz (Nat.le_refl 1) hi hj) h1 h2) (hw_short (a := 1) (fun i j hi hj => h7.sz (Nat.le_refl 1) hi hj) h5 h6) (by decide) (by decide) (by decide) h2).mono fun _ _ _ _ ⟨x, _, _, _, hv, hS, _, _, _, hD⟩ => ⟨hD, _, 0, hv, hS.form, PErr.ok h.1.1 h.1.2 h.2⟩
  obtain ⟨pa, cca, rfl, -⟩ := ha.form
  obtain ⟨pb, ccb, rfl, -⟩ := hb.form
  refine ct_of_st Tryz.func14 rfl rfl rfl rfl ?_
  repeat (first | refine run_S ?_ | refine w_box (fun _ => ?_) | refine w_al (fun _ => ?_))
  refine sl_call rfl rfl rfl rfl rfl rfl (fun _ => spair_e (ha.up uc) (hb.up uc)) ?_
  rintro v1 U1 D1 hU1 ⟨rfl, e, rfl, he⟩
  try rw [List.nil_append]
  repeat (first | refine run_S ?_ | refine w_box (fun _ => ?_) | refine w_al (fun _ => ?_))
  refine st_ne rfl (fun h1 => ?_) (fun h1 => absurd (he.2.1.1 (by omega)) h)
  repeat (first | refine run_S ?_ | refine w_box (fun _ => ?_) | refine w_al (fun _ => ?_))
  exact sk_ret [] sym rfl (.cons (.cell 0 rfl rfl rfl) (.cons (.tmp rfl) .nil)) uc sb (.inl rfl) ⟨rfl, _, e, rfl, ⟨_, _, _, _, _, _, rfl⟩, he⟩

theorem sWithin_e {va vb : Value} {da ra ca db rb cb : Int} {na nb : Nat} {fa fb : Nat → Rat} (ha : LitS U va da ra ca na fa) (hb : LitS U vb db rb cb nb fb) :
    Ct Tryz.prog 37 [va, vb] G U M fun v _ D => D = [] ∧ ∃ (x : Value) (e : Int), v = .tuple #[x, .int .i64 e] ∧ BoF x ∧ PErr (VldS da ra ca na fa) (VldS db rb cb nb fb) da db e := by
  by_cases h : (VldS da ra ca na fa ∧ VldS db rb cb nb fb) ∧ da = db
  · obtain ⟨Ra, Ca, qa, e1, -, -, h1, h2, h3, h4⟩ := h.1.1.get ha
    obtain ⟨Rb, Cb, qb, e2, -, -, h5, h6, h7, h8⟩ := h.1.2.get hb
    obtain rfl : Cb = Ca := by have := h.2; omega
    exact (sWithin_ok h3 h7 h4 h8 (by decide) (by decide) (by decide) (by decide) h2).mono fun _ _ _ _ ⟨x, hv, _, hD⟩ => ⟨hD, _, 0, hv, ⟨_, rfl⟩, PErr.ok h.1.1 h.1.2 h.2⟩
  obtain ⟨pa, cca, rfl, -⟩ := ha.form
  obtain ⟨pb, ccb, rfl, -⟩ := hb.form
  refine ct_of_st Tryz.func37 rfl rfl rfl rfl ?_
  repeat (first | refine run_S ?_ | refine w_box (fun _ => ?_) | refine w_al (fun _ => ?_))
  refine sl_call rfl rfl rfl rfl rfl rfl (fun _ => spair_e (ha.up uc) (hb.up uc)) ?_
  rintro v1 U1 D1 hU1 ⟨rfl, e, rfl, he⟩
  try rw [List.nil_append]
  repeat (first | refine run_S ?_ | refine w_box (fun _ => ?_) | refine w_al (fun _ => ?_))
  refine st_ne rfl (fun h1 => ?_) (fun h1 => absurd (he.2.1.1 (by omega)) h)
  repeat (first | refine run_S ?_ | refine w_box (fun _ => ?_) | refine w_al (fun _ => ?_))
  exact sk_ret [] sym rfl (.cons (.tmp rfl) (.cons (.tmp rfl) .nil)) uc sb (.inl rfl) ⟨rfl, _, e, rfl, ⟨_, rfl⟩, he⟩

theorem sComplement_e {va : Value} {d r c : Int} {n : Nat} {f : Nat → Rat} (ha : LitS U va d r c n f) :
    Ct Tryz.prog 41 [va] G U M fun v _ D => D = [] ∧ ∃ (x : Value) (e : Int), v = .tuple #[x, .int .i64 e] ∧ SpF x ∧ (e = 0 ∨ e = 3) ∧ (e = 0 ↔ VldS d r c n f) := by
  by_cases h : VldS d r c n f
  · obtain ⟨Ra, Ca, qa, e1, -, -, h1, h2, h3, h4⟩ := h.get ha
    exact (sComplement_ok h3 h4 (by decide) (by decide) h2).mono fun _ _ _ _ ⟨x, _, _, hv, hS, _, _, hD⟩ => ⟨hD, x, 0, hv, hS.form, .inl rfl, fun _ => h, fun _ => rfl⟩
  obtain ⟨pa, cca, rfl, -⟩ := ha.form
  refine ct_of_st Tryz.func41 rfl rfl rfl rfl ?_
  repeat (first | refine run_S ?_ | refine w_box (fun _ => ?_) | refine w_al (fun _ => ?_))
  refine sl_call rfl rfl rfl rfl rfl rfl (fun _ => sCheck_any (ha.up uc)) ?_
  rintro v1 U1 D1 hU1 ⟨rfl, e, rfl, he, hv⟩
  try rw [List.nil_append]
  repeat (first | refine run_S ?_ | refine w_box (fun _ => ?_) | refine w_al (fun _ => ?_))
  refine st_ne rfl (fun h1 => ?_) (fun h1 => absurd (hv.1 (by omega)) h)
  repeat (first | refine run_S ?_ | refine w_box (fun _ => ?_) | refine w_al (fun _ => ?_))
  exact sk_ret [] sym rfl (.cons (.cell 0 rfl rfl rfl) (.cons (.tmp rfl) .nil)) uc sb (.inl rfl) ⟨rfl, _, e, rfl, ⟨_, _, _, _, _, _, rfl⟩, he, hv⟩

theorem sAnnihilator_e {va : Value} {d r c : Int} {n : Nat} {f : Nat → Rat} (ha : LitS U va d r c n f) :
    Ct Tryz.prog 42 [va] G U M fun v _ D => D = [] ∧ ∃ (x : Value) (e : Int), v = .tuple #[x, .int .i64 e] ∧ SpF x ∧ (e = 0 ∨ e = 3) ∧ (e = 0 ↔ VldS d r c n f) := by
  by_cases h : VldS d r c n f
  · obtain ⟨Ra, Ca, qa, e1, -, -, h1, h2, h3, h4⟩ := h.get ha
    exact (sAnnihilator_ok h3 h4 (by decide) (by decide) h2).mono fun _ _ _ _ ⟨x, _, _, _, hv, hS, _, hD⟩ => ⟨hD, x, 0, hv, hS.form, .inl rfl, fun _ => h, fun _ => rfl⟩
  obtain ⟨pa, cca, rfl, -⟩ := ha.form
  refine ct_of_st Tryz.func42 rfl rfl rfl rfl ?_
  repeat (first | refine run_S ?_ | refine w_box (fun _ => ?_) | refine w_al (fun _ => ?_))
  refine sl_call rfl rfl rfl rfl rfl rfl (fun _ => sCheck_any (ha.up uc)) ?_
  rintro v1 U1 D1 hU1 ⟨rfl, e, rfl, he, hv⟩
  try rw [List.nil_append]
  repeat (first | refine run_S ?_ | refine w_box (fun _ => ?_) | refine w_al (fun _ => ?_))
  refine st_ne rfl (fun h1 => ?_) (fun h1 => absurd (hv.1 (by omega)) h)
  repeat (first | refine run_S ?_ | refine w_box (fun _ => ?_) | refine w_al (fun _ => ?_))
  exact sk_ret [] sym rfl (.cons (.cell 0 rfl rfl rfl) (.cons (.tmp rfl) .nil)) uc sb (.inl rfl) ⟨rfl, _, e, rfl, ⟨_, _, _, _, _, _, rfl⟩, he, hv⟩

/-- The error of a map. -/
def MErr (a b : Prop) (e : Int) : Prop := (e = 3 ↔ ¬ a) ∧ (e = 4 ↔ a ∧ ¬ b)
theorem MErr.no {a b : Prop} (h : ¬ a) : MErr a b 3 := ⟨⟨fun _ => h, fun _ => rfl⟩, (fun h => by cases h), fun h1 => absurd h1.1 h⟩
theorem MErr.four {a b : Prop} (h : a) (h2 : ¬ b) : MErr a b 4 := ⟨⟨(fun h => by cases h), fun h1 => absurd h h1⟩, fun _ => ⟨h, h2⟩, fun _ => rfl⟩
theorem MErr.else {a b : Prop} {e : Int} (h : a) (h2 : b) (h3 : e ≠ 3) (h4 : e ≠ 4) : MErr a b e := ⟨⟨fun h5 => absurd h5 h3, fun h1 => absurd h h1⟩, fun h5 => absurd h5 h4, fun h5 => absurd h2 h5.2⟩

theorem sImage_e {v vt : Value} {d r c rt ct : Int} {n nt : Nat} {f ft : Nat → Rat} (h : LitS U v d r c n f) (ht : Lit 6 U vt rt ct nt ft) :
    Ct Tryz.prog 45 [v, vt] G U M fun v _ D => D = [] ∧ ∃ (x : Value) (e : Int), v = .tuple #[x, .int .i64 e] ∧ SpF x ∧ (e = 0 ∨ e = 3 ∨ e = 4) ∧ MErr (VldS d r c n f) (Vld rt ct nt ∧ rt = d) e := by
  by_cases hp : VldS d r c n f ∧ Vld rt ct nt ∧ rt = d
  · obtain ⟨Ra, Ca, qa, e1, -, -, h1, h2, h3, h4⟩ := hp.1.get h
    obtain ⟨Rt, Ct1, e2, e3, h5, h6, h7⟩ := ht.vm hp.2.1
    obtain rfl : Rt = Ca := by have := hp.2.2; omega
    exact (sImage_ok h3 h4 h7 (by decide) (by decide) h2 h6).mono fun _ _ _ _ ⟨x, _, _, _, hv, hS, _, _, hD⟩ => ⟨hD, x, 0, hv, hS.form, .inl rfl, MErr.else hp.1 hp.2 (by decide) (by decide)⟩
  obtain ⟨pa, cca, rfl, hn⟩ := h.form
  obtain ⟨pt, cct, rfl, hnt⟩ := ht.form
  refine ct_of_st Tryz.func45 rfl rfl rfl rfl ?_
  repeat (first | refine run_S ?_ | refine w_box (fun _ => ?_) | refine w_al (fun _ => ?_))
  refine sl_call rfl rfl rfl rfl rfl rfl (fun _ => sCheck_any (h.up uc)) ?_
  rintro v1 U1 D1 hU1 ⟨rfl, e, rfl, he, hv⟩
  try rw [List.nil_append]
  repeat (first | refine run_S ?_ | refine w_box (fun _ => ?_) | refine w_al (fun _ => ?_))
  refine st_ne rfl (fun h1 => ?_) (fun h1 => ?_)
  · obtain rfl : e = 3 := by omega
    repeat (first | refine run_S ?_ | refine w_box (fun _ => ?_) | refine w_al (fun _ => ?_))
    exact sk_ret [] sym rfl (.cons (.cell 0 rfl rfl rfl) (.cons (.tmp rfl) .nil)) uc sb (.inl rfl) ⟨rfl, _, 3, rfl, ⟨_, _, _, _, _, _, rfl⟩, .inr (.inl rfl), MErr.no fun h2 => h1 (hv.2 h2)⟩
  have hV := hv.1 (by omega)
  have hno : ¬ (Vld rt ct nt ∧ rt = d) := fun h2 => hp ⟨hV, h2⟩
  repeat (first | refine run_S ?_ | refine w_box (fun _ => ?_) | refine w_al (fun _ => ?_))
  refine sl_call rfl rfl rfl rfl rfl rfl (fun _ => mMul_no (ra := r) (ca := c) (rb := rt) (cb := ct) (na := n) (nb := nt) (cca := cca) (ccb := cct) (pa := pa) (pb := pt) (by omega) (by omega) (fun h2 => hno ⟨h2.2.1, by rw [hV.2.1]; exact h2.2.2.symm⟩)) ?_
  rintro v2 U2 D2 hU2 ⟨rfl, r2, c2, p2, n2, cc2, rfl⟩
  try rw [List.nil_append]
  repeat (first | refine run_S ?_ | refine w_box (fun _ => ?_) | refine w_al (fun _ => ?_))
  refine st_ne rfl (fun _ => ?_) (fun h2 => absurd h2 (by decide))
  repeat (first | refine run_S ?_ | refine w_box (fun _ => ?_) | refine w_al (fun _ => ?_))
  exact sk_ret [] sym rfl (.cons (.cell 1 rfl rfl rfl) (.cons (.tmp rfl) .nil)) uc sb (.inl rfl) ⟨rfl, _, 4, rfl, ⟨_, _, _, _, _, _, rfl⟩, .inr (.inr rfl), MErr.four hV hno⟩

theorem sPreimage_e {v vt : Value} {d r c rt ct : Int} {n nt : Nat} {f ft : Nat → Rat} (h : LitS U v d r c n f) (ht : Lit 6 U vt rt ct nt ft) :
    Ct Tryz.prog 46 [v, vt] G U M fun v _ D => D = [] ∧ ∃ (x : Value) (e : Int), v = .tuple #[x, .int .i64 e] ∧ SpF x ∧ (e = 0 ∨ e = 3 ∨ e = 4) ∧ MErr (VldS d r c n f) (Vld rt ct nt ∧ ct = d) e := by
  by_cases hp : VldS d r c n f ∧ Vld rt ct nt ∧ ct = d
  · obtain ⟨Ra, Ca, qa, e1, -, -, h1, h2, h3, h4⟩ := hp.1.get h
    obtain ⟨Rt, Ct1, e2, e3, h5, h6, h7⟩ := ht.vm hp.2.1
    obtain rfl : Ct1 = Ca := by have := hp.2.2; omega
    exact (sPreimage_ok (w := 1 * 37 + 1) (v := 1 * 37 + 1) h3 h4 (hw_short (a := 1) (fun i j hi hj => h3.sz (Nat.le_refl 1) hi hj) h1 h2) h7 (hw_short (a := 1) (fun i j hi hj => h7.sz (Nat.le_refl 1) hi hj) h5 h6) (by decide) (by decide) h5 h6).mono fun _ _ _ _ ⟨x, _, _, _, _, _, _, hv, hS, _, _, _, hD⟩ => ⟨hD, x, 0, hv, hS.form, .inl rfl, MErr.else hp.1 hp.2 (by decide) (by decide)⟩
  obtain ⟨pa, cca, rfl, hn⟩ := h.form
  obtain ⟨pt, cct, rfl, hnt⟩ := ht.form
  refine ct_of_st Tryz.func46 rfl rfl rfl rfl ?_
  repeat (first | refine run_S ?_ | refine w_box (fun _ => ?_) | refine w_al (fun _ => ?_))
  refine sl_call rfl rfl rfl rfl rfl rfl (fun _ => sCheck_any (h.up uc)) ?_
  rintro v1 U1 D1 hU1 ⟨rfl, e, rfl, he, hv⟩
  try rw [List.nil_append]
  repeat (first | refine run_S ?_ | refine w_box (fun _ => ?_) | refine w_al (fun _ => ?_))
  refine st_ne rfl (fun h1 => ?_) (fun h1 => ?_)
  · obtain rfl : e = 3 := by omega
    repeat (first | refine run_S ?_ | refine w_box (fun _ => ?_) | refine w_al (fun _ => ?_))
    exact sk_ret [] sym rfl (.cons (.cell 0 rfl rfl rfl) (.cons (.tmp rfl) .nil)) uc sb (.inl rfl) ⟨rfl, _, 3, rfl, ⟨_, _, _, _, _, _, rfl⟩, .inr (.inl rfl), MErr.no fun h2 => h1 (hv.2 h2)⟩
  have hV := hv.1 (by omega)
  have hno : ¬ (Vld rt ct nt ∧ ct = d) := fun h2 => hp ⟨hV, h2⟩
  repeat (first | refine run_S ?_ | refine w_box (fun _ => ?_) | refine w_al (fun _ => ?_))
  refine sl_call rfl rfl rfl rfl rfl rfl (fun _ => mValid_ct (r := rt) (c := ct) (n := nt) (p := pt) (cc := cct) (by omega)) ?_
  rintro v U' D hU ⟨rfl, rfl, rfl⟩
  repeat (first | refine run_S ?_ | refine w_box (fun _ => ?_) | refine w_al (fun _ => ?_))
  by_cases hVt : Vld rt ct nt
  · rw [decide_eq_true hVt]
    repeat (first | refine run_S ?_ | refine w_box (fun _ => ?_) | refine w_al (fun _ => ?_))
    refine st_ne rfl (fun _ => ?_) (fun h2 => absurd ⟨hVt, by omega⟩ hno)
    repeat (first | refine run_S ?_ | refine w_box (fun _ => ?_) | refine w_al (fun _ => ?_))
    exact sk_ret [] sym rfl (.cons (.cell 0 rfl rfl rfl) (.cons (.tmp rfl) .nil)) uc sb (.inl rfl) ⟨rfl, _, 4, rfl, ⟨_, _, _, _, _, _, rfl⟩, .inr (.inr rfl), MErr.four hV hno⟩
  · rw [decide_eq_false hVt]
    repeat (first | refine run_S ?_ | refine w_box (fun _ => ?_) | refine w_al (fun _ => ?_))
    exact sk_ret [] sym rfl (.cons (.cell 0 rfl rfl rfl) (.cons (.tmp rfl) .nil)) uc sb (.inl rfl) ⟨rfl, _, 4, rfl, ⟨_, _, _, _, _, _, rfl⟩, .inr (.inr rfl), MErr.four hV hno⟩

theorem saction_no {v vt : Value} {d r c rt ct : Int} {n nt : Nat} {f ft : Nat → Rat} (h : LitS U v d r c n f) (ht : Lit 6 U vt rt ct nt ft) (hp : ¬ (VldS d r c n f ∧ Vld rt ct nt ∧ rt = d ∧ ct = d)) :
    Ct Tryz.prog 97 [v, vt] G U M fun v _ D => D = [] ∧ ∃ e : Int, v = .int .i64 e ∧ (e = 3 ∨ e = 4) ∧ MErr (VldS d r c n f) (Vld rt ct nt ∧ rt = d ∧ ct = d) e := by
  obtain ⟨pa, cca, rfl, hn⟩ := h.form
  obtain ⟨pt, cct, rfl, hnt⟩ := ht.form
  refine ct_of_st Tryz.func97 rfl rfl rfl rfl ?_
  repeat (first | refine run_S ?_ | refine w_box (fun _ => ?_) | refine w_al (fun _ => ?_))
  refine sl_call rfl rfl rfl rfl rfl rfl (fun _ => sCheck_any (h.up uc)) ?_
  rintro v1 U1 D1 hU1 ⟨rfl, e, rfl, he, hv⟩
  try rw [List.nil_append]
  repeat (first | refine run_S ?_ | refine w_box (fun _ => ?_) | refine w_al (fun _ => ?_))
  refine st_ne rfl (fun h1 => ?_) (fun h1 => ?_)
  · obtain rfl : e = 3 := by omega
    repeat (first | refine run_S ?_ | refine w_box (fun _ => ?_) | refine w_al (fun _ => ?_))
    exact sk_ret [] sym rfl (.cons (.tmp rfl) .nil) uc sb (.inl rfl) ⟨rfl, 3, rfl, .inl rfl, MErr.no fun h2 => h1 (hv.2 h2)⟩
  have hV := hv.1 (by omega)
  have hno : ¬ (Vld rt ct nt ∧ rt = d ∧ ct = d) := fun h2 => hp ⟨hV, h2⟩
  repeat (first | refine run_S ?_ | refine w_box (fun _ => ?_) | refine w_al (fun _ => ?_))
  refine sl_call rfl rfl rfl rfl rfl rfl (fun _ => mValid_ct (r := rt) (c := ct) (n := nt) (p := pt) (cc := cct) (by omega)) ?_
  rintro v U' D hU ⟨rfl, rfl, rfl⟩
  repeat (first | refine run_S ?_ | refine w_box (fun _ => ?_) | refine w_al (fun _ => ?_))
  by_cases hVt : Vld rt ct nt
  · rw [decide_eq_true hVt]
    repeat (first | refine run_S ?_ | refine w_box (fun _ => ?_) | refine w_al (fun _ => ?_))
    refine sl_gdec rfl rfl (fun h1 => ?_) (fun h1 => ?_)
    · repeat (first | refine run_S ?_ | refine w_box (fun _ => ?_) | refine w_al (fun _ => ?_))
      exact sk_ret [] sym rfl (.cons (.tmp rfl) .nil) uc sb (.inl rfl) ⟨rfl, 4, rfl, .inr rfl, MErr.four hV hno⟩
    · repeat (first | refine run_S ?_ | refine w_box (fun _ => ?_) | refine w_al (fun _ => ?_))
      refine st_ne rfl (fun _ => ?_) (fun h2 => absurd ⟨hVt, by omega, by omega⟩ hno)
      repeat (first | refine run_S ?_ | refine w_box (fun _ => ?_) | refine w_al (fun _ => ?_))
      exact sk_ret [] sym rfl (.cons (.tmp rfl) .nil) uc sb (.inl rfl) ⟨rfl, 4, rfl, .inr rfl, MErr.four hV hno⟩
  · rw [decide_eq_false hVt]
    repeat (first | refine run_S ?_ | refine w_box (fun _ => ?_) | refine w_al (fun _ => ?_))
    exact sk_ret [] sym rfl (.cons (.tmp rfl) .nil) uc sb (.inl rfl) ⟨rfl, 4, rfl, .inr rfl, MErr.four hV hno⟩

theorem sRestrict_no {v vt : Value} {d r c rt ct : Int} {n nt : Nat} {f ft : Nat → Rat} (h : LitS U v d r c n f) (ht : Lit 6 U vt rt ct nt ft) (hp : ¬ (VldS d r c n f ∧ Vld rt ct nt ∧ rt = d ∧ ct = d)) :
    Ct Tryz.prog 49 [v, vt] G U M fun v _ D => D = [] ∧ ∃ e : Int, v = .tuple #[.agg #[.int .i64 0, .int .i64 0, .slice none 0 0], .int .i64 e] ∧ (e = 3 ∨ e = 4) ∧ MErr (VldS d r c n f) (Vld rt ct nt ∧ rt = d ∧ ct = d) e := by
  obtain ⟨pa, cca, rfl, hn⟩ := h.form
  obtain ⟨pt, cct, rfl, hnt⟩ := ht.form
  refine ct_of_st Tryz.func49 rfl rfl rfl rfl ?_
  repeat (first | refine run_S ?_ | refine w_box (fun _ => ?_) | refine w_al (fun _ => ?_))
  refine sl_call rfl rfl rfl rfl rfl rfl (fun _ => saction_no (h.up uc) (ht.up uc) hp) ?_
  rintro v1 U1 D1 hU1 ⟨rfl, e, rfl, he, hm⟩
  try rw [List.nil_append]
  repeat (first | refine run_S ?_ | refine w_box (fun _ => ?_) | refine w_al (fun _ => ?_))
  refine st_ne rfl (fun h1 => ?_) (fun h1 => absurd he (by omega))
  repeat (first | refine run_S ?_ | refine w_box (fun _ => ?_) | refine w_al (fun _ => ?_))
  exact sk_ret [] sym rfl (.cons (.cell 0 rfl rfl rfl) (.cons (.tmp rfl) .nil)) uc sb (.inl rfl) ⟨rfl, e, rfl, he, hm⟩

theorem sQuotient_no {v vt : Value} {d r c rt ct : Int} {n nt : Nat} {f ft : Nat → Rat} (h : LitS U v d r c n f) (ht : Lit 6 U vt rt ct nt ft) (hp : ¬ (VldS d r c n f ∧ Vld rt ct nt ∧ rt = d ∧ ct = d)) :
    Ct Tryz.prog 50 [v, vt] G U M fun v _ D => D = [] ∧ ∃ e : Int, v = .tuple #[.agg #[.int .i64 0, .int .i64 0, .slice none 0 0], .int .i64 e] ∧ (e = 3 ∨ e = 4) ∧ MErr (VldS d r c n f) (Vld rt ct nt ∧ rt = d ∧ ct = d) e := by
  obtain ⟨pa, cca, rfl, hn⟩ := h.form
  obtain ⟨pt, cct, rfl, hnt⟩ := ht.form
  refine ct_of_st Tryz.func50 rfl rfl rfl rfl ?_
  repeat (first | refine run_S ?_ | refine w_box (fun _ => ?_) | refine w_al (fun _ => ?_))
  refine sl_call rfl rfl rfl rfl rfl rfl (fun _ => sRestrict_no (h.up uc) (ht.up uc) hp) ?_
  rintro v1 U1 D1 hU1 ⟨rfl, e, rfl, he, hm⟩
  try rw [List.nil_append]
  repeat (first | refine run_S ?_ | refine w_box (fun _ => ?_) | refine w_al (fun _ => ?_))
  refine st_ne rfl (fun h1 => ?_) (fun h1 => absurd he (by omega))
  repeat (first | refine run_S ?_ | refine w_box (fun _ => ?_) | refine w_al (fun _ => ?_))
  exact sk_ret [] sym rfl (.cons (.cell 1 rfl rfl rfl) (.cons (.tmp rfl) .nil)) uc sb (.inl rfl) ⟨rfl, e, rfl, he, hm⟩

theorem sRestrict_e {v vt : Value} {d r c rt ct : Int} {n nt : Nat} {f ft : Nat → Rat} (h : LitS U v d r c n f) (ht : Lit 6 U vt rt ct nt ft) :
    Ct Tryz.prog 49 [v, vt] G U M fun v _ D => D = [] ∧ ∃ (x : Value) (e : Int), v = .tuple #[x, .int .i64 e] ∧ MtF x ∧ MErr (VldS d r c n f) (Vld rt ct nt ∧ rt = d ∧ ct = d) e := by
  by_cases hp : VldS d r c n f ∧ Vld rt ct nt ∧ rt = d ∧ ct = d
  · obtain ⟨Ra, Ca, qa, e1, -, -, h1, h2, h3, h4⟩ := hp.1.get h
    obtain ⟨Rt, Ct1, e2, e3, h5, h6, h7⟩ := ht.vm hp.2.1
    obtain rfl : Rt = Ca := by have := hp.2.2.1; omega
    obtain rfl : Ct1 = Rt := by have := hp.2.2.2; omega
    exact (sRestrict_ok h3 h4 h7 (by decide) (by decide) h2).mono fun _ _ _ _ h => by
      obtain ⟨x, e, hv, he, -, hy, hno, hD⟩ := h
      have h3 : e ≠ 3 := fun h => he.elim (fun h2 => by rw [h] at h2; cases h2) (fun h2 => by rw [h] at h2; cases h2)
      have h4 : e ≠ 4 := fun h => he.elim (fun h2 => by rw [h] at h2; cases h2) (fun h2 => by rw [h] at h2; cases h2)
      exact ⟨hD, x, e, hv, (he.elim (fun h => (hy h).form) fun h => ⟨_, _, _, _, _, hno h⟩), MErr.else hp.1 hp.2 h3 h4⟩
  · exact (sRestrict_no h ht hp).mono fun _ _ _ _ ⟨h1, e, h2, h3, h4⟩ => ⟨h1, _, e, h2, ⟨_, _, _, _, _, rfl⟩, h4⟩

theorem sQuotient_e {v vt : Value} {d r c rt ct : Int} {n nt : Nat} {f ft : Nat → Rat} (h : LitS U v d r c n f) (ht : Lit 6 U vt rt ct nt ft) :
    Ct Tryz.prog 50 [v, vt] G U M fun v _ D => D = [] ∧ ∃ (x : Value) (e : Int), v = .tuple #[x, .int .i64 e] ∧ MtF x ∧ MErr (VldS d r c n f) (Vld rt ct nt ∧ rt = d ∧ ct = d) e := by
  by_cases hp : VldS d r c n f ∧ Vld rt ct nt ∧ rt = d ∧ ct = d
  · obtain ⟨Ra, Ca, qa, e1, -, -, h1, h2, h3, h4⟩ := hp.1.get h
    obtain ⟨Rt, Ct1, e2, e3, h5, h6, h7⟩ := ht.vm hp.2.1
    obtain rfl : Rt = Ca := by have := hp.2.2.1; omega
    obtain rfl : Ct1 = Rt := by have := hp.2.2.2; omega
    exact (sQuotient_ok h3 h4 h7 (by decide) (by decide) h2).mono fun _ _ _ _ h => by
      obtain ⟨x, e, hv, he, -, hy, hno, hD⟩ := h
      have h3 : e ≠ 3 := fun h => he.elim (fun h2 => by rw [h] at h2; cases h2) (fun h2 => by rw [h] at h2; cases h2)
      have h4 : e ≠ 4 := fun h => he.elim (fun h2 => by rw [h] at h2; cases h2) (fun h2 => by rw [h] at h2; cases h2)
      exact ⟨hD, x, e, hv, (he.elim (fun h => by obtain ⟨m, f, -, -, h2⟩ := hy h; exact h2.form) fun h => ⟨_, _, _, _, _, hno h⟩), MErr.else hp.1 hp.2 h3 h4⟩
  · exact (sQuotient_no h ht hp).mono fun _ _ _ _ ⟨h1, e, h2, h3, h4⟩ => ⟨h1, _, e, h2, ⟨_, _, _, _, _, rfl⟩, h4⟩

end Go.Proofs.YtocjmbilepbokaaGreat
