/- Texts of this seat's own, merged: each begins with its own remark. -/
import Derived.Test.YtocjmbilepbokaaGreatM32
/- Walks of the helpers of layer 10's statements: awake. -/
namespace Go.Proofs.YtocjmbilepbokaaGreat
open Go.Hp
variable {G : World} {U U' : UH} {M M' : MH}

abbrev a10S : Nat → Nat → Rat := zz [[1, 1, 0], [0, 0, 1]]
abbrev a10T : Nat → Nat → Rat := zz [[1, 0, 0], [0, 1, 1]]
abbrev a10I : Nat → Nat → Rat := zz [[1, 1, 1]]
abbrev a10V : Nat → Rat := fun i => ((([2, 2, 5] : List Int).getD i 0 : Int) : Rat)
theorem a10_s : La.Ech 2 3 a10S (fun i => if i = 0 then 0 else 2) := by
  refine ⟨fun i hi => ?_, fun i k hik hk => ?_, fun i k hi hk => ?_, fun i j hi hj => ?_⟩
  · split <;> omega
  · rw [if_pos (by omega), if_neg (by omega)]; omega
  · rcases show i = 0 ∨ i = 1 by omega with rfl | rfl <;> rcases show k = 0 ∨ k = 1 by omega with rfl | rfl <;> rfl
  · rcases show i = 0 ∨ i = 1 by omega with rfl | rfl
    · simp at hj
    · rcases show j = 0 ∨ j = 1 by (simp at hj; omega) with rfl | rfl <;> rfl
theorem a10_t : La.Ech 2 3 a10T (fun i => i) := by
  refine ⟨fun i hi => by omega, fun i k hik hk => hik, fun i k hi hk => ?_, fun i j hi hj => ?_⟩
  · rcases show i = 0 ∨ i = 1 by omega with rfl | rfl <;> rcases show k = 0 ∨ k = 1 by omega with rfl | rfl <;> rfl
  · rcases show i = 0 ∨ i = 1 by omega with rfl | rfl
    · omega
    · rcases show j = 0 by omega with rfl; rfl
theorem a10_i : La.Ech 1 3 a10I (fun _ => 0) := by
  refine ⟨fun i hi => by omega, fun i k hik hk => by omega, fun i k hi hk => ?_, fun i j hi hj => by omega⟩
  rcases show i = 0 by omega with rfl; rcases show k = 0 by omega with rfl; rfl
theorem sm_two (f : Nat → Rat) : La.sm 2 f = 0 + f 0 + f 1 := rfl
theorem sm_one' (f : Nat → Rat) : La.sm 1 f = 0 + f 0 := rfl
theorem a10_both {x : Nat → Rat} (hS : La.Sp 2 3 a10S x) (hT : La.Sp 2 3 a10T x) : La.Sp 1 3 a10I x := by
  obtain ⟨c, hc⟩ := hS
  obtain ⟨d, hd⟩ := hT
  have c0 := hc 0 (by decide)
  have c1 := hc 1 (by decide)
  have d1 := hd 1 (by decide)
  have d2 := hd 2 (by decide)
  rw [sm_two] at c0 c1 d1 d2
  rw [show a10S 0 0 = 1 from of_decide_eq_true (by kernel_rfl), show a10S 1 0 = 0 from of_decide_eq_true (by kernel_rfl)] at c0
  rw [show a10S 0 1 = 1 from of_decide_eq_true (by kernel_rfl), show a10S 1 1 = 0 from of_decide_eq_true (by kernel_rfl)] at c1
  rw [show a10T 0 1 = 0 from of_decide_eq_true (by kernel_rfl), show a10T 1 1 = 1 from of_decide_eq_true (by kernel_rfl)] at d1
  rw [show a10T 0 2 = 0 from of_decide_eq_true (by kernel_rfl), show a10T 1 2 = 1 from of_decide_eq_true (by kernel_rfl)] at d2
  refine ⟨fun _ => x 0, fun j hj => ?_⟩
  rw [sm_one']
  have e : ∀ j, j < 3 → a10I 0 j = 1 := fun j hj => by
    rcases show j = 0 ∨ j = 1 ∨ j = 2 by omega with rfl | rfl | rfl <;> exact of_decide_eq_true (by kernel_rfl)
  rw [e j hj]
  rcases show j = 0 ∨ j = 1 ∨ j = 2 by omega with rfl | rfl | rfl <;> grind
theorem a10_in : La.Sp 2 3 a10S (a10I 0) ∧ La.Sp 2 3 a10T (a10I 0) := by
  refine ⟨⟨fun _ => 1, fun j hj => ?_⟩, ⟨fun _ => 1, fun j hj => ?_⟩⟩ <;> rcases show j = 0 ∨ j = 1 ∨ j = 2 by omega with rfl | rfl | rfl <;> exact of_decide_eq_true (by kernel_rfl)
theorem a10_v : La.Sp 2 3 a10S a10V := by
  refine ⟨fun k => if k = 0 then 2 else 5, fun j hj => ?_⟩
  rcases show j = 0 ∨ j = 1 ∨ j = 2 by omega with rfl | rfl | rfl <;> exact of_decide_eq_true (by kernel_rfl)

theorem Sv.congr {ok : UH → Value → Rat → Prop} {r n : Nat} {v : Value} {A B : Nat → Nat → Rat} (h : Sv ok r n U v A) (e : ∀ i j, i < r → j < n → A i j = B i j) : Sv ok r n U v B := by
  obtain ⟨a, h1, h2⟩ := h
  exact ⟨a, h1, h2.congr fun k hk => e _ _ (fl_lt hk).1 (fl_lt hk).2⟩

theorem one_rows {α : Type} {P : Nat → α → Prop} {a : α} (h0 : P 0 a) : ∀ k v, [a][k]? = some v → P k v
  | 0, v, h => by cases h; exact h0
  | k + 1, v, h => by simp at h

set_option maxRecDepth 100000 in
set_option maxHeartbeats 2000000 in
theorem awake10_ct : Ct Tryz.prog 12 [] G U M fun v U' D => v = .bool true ∧ ULe U U' ∧ D = [] := by
  have small : ∀ ls : List (List Int), (ls.all fun l => l.all fun z => decide (z.natAbs < 4294967296)) = true → ∀ l ∈ ls, ∀ z ∈ l, z.natAbs < 4294967296 := fun ls h l hl z hz => of_decide_eq_true (List.all_eq_true.1 (List.all_eq_true.1 h l hl) z hz)
  have rng : ∀ l : List Int, (l.all fun z => decide (-9223372036854775808 ≤ z ∧ z ≤ 9223372036854775807)) = true → ∀ z ∈ l, -9223372036854775808 ≤ z ∧ z ≤ 9223372036854775807 := fun l h z hz => of_decide_eq_true (List.all_eq_true.1 h z hz)
  refine ct_of_st Tryz.func12 rfl rfl rfl rfl ?_
  repeat (first | refine run_S ?_ | refine w_box (fun _ => ?_) | refine w_al (fun _ => ?_))
  refine sl_bslice (vs := [.int .i64 1, .int .i64 1, .int .i64 0]) sym rfl rfl rfl rfl rfl rfl (all_size rfl) rfl rfl rfl rfl rfl rfl (fun b7 => ?_)
  refine sl_bslice (vs := [.int .i64 0, .int .i64 0, .int .i64 1]) sym rfl rfl rfl rfl rfl rfl (all_size rfl) rfl rfl rfl rfl rfl rfl (fun b8 => ?_)
  refine sl_bslice (vs := [.slice (some ⟨b7, 0, none⟩) 3 3, .slice (some ⟨b8, 0, none⟩) 3 3]) sym rfl rfl rfl rfl rfl rfl (all_size rfl) rfl rfl rfl rfl rfl rfl (fun b9 => ?_)
  refine sl_call rfl rfl rfl rfl rfl rfl (fun _ => ct_setm (bRows_ct (r := 2) (c := 3) (lit_rows (ls := [[1, 1, 0], [0, 0, 1]]) rfl (by decide) (two_rows (lit_row (l := [1, 1, 0]) (e := TInt) (rng _ rfl) rfl (by decide) sb) (lit_row (l := [0, 0, 1]) (e := TInt) (rng _ rfl) rfl (by decide) sb)) sb) (by decide) (by decide) (by decide))) ?_
  rintro vh1 Uh1 D hU ⟨h1, rfl⟩
  rw [List.nil_append]
  repeat (first | refine run_S ?_ | refine w_box (fun _ => ?_) | refine w_al (fun _ => ?_))
  have z1 : ∀ i j, i < 2 → j < 3 → Szq (a10S i j) 1 := fun i j _ _ => zz_sz (small _ rfl) i j
  refine sl_call rfl rfl rfl rfl rfl rfl (fun _ => sSpan_ct (b := 1) (h1.w z1) (by decide) (by decide) (by decide) (by decide)) ?_
  rintro v2 U2 D2 hU2 ⟨r1, R1, q1, _, rfl, hS1, hE1, hs1, rfl⟩
  try rw [List.nil_append]
  obtain ⟨rfl, -, e1⟩ := a10_s.unique hE1 hs1.symm
  replace hS1 := hS1.congr (B := a10S) fun i j hi hj => (e1 i j hi hj).symm
  have hS1w := hS1.w z1
  obtain ⟨_, rfl, p1, c1, s1, rfl, -⟩ := id hS1
  repeat (first | refine run_S ?_ | refine w_box (fun _ => ?_) | refine w_al (fun _ => ?_))
  refine st_draw [0, 1, 2, 3, 4, 5, 6, 7, 8] sym (by kernel_rfl) ?_
  repeat (first | refine run_S ?_ | refine w_box (fun _ => ?_) | refine w_al (fun _ => ?_))
  refine sl_bslice (vs := [.int .i64 2, .int .i64 2, .int .i64 5]) sym rfl rfl rfl rfl rfl rfl (all_size rfl) rfl rfl rfl rfl rfl rfl (fun c7 => ?_)
  refine sl_call rfl rfl rfl rfl rfl rfl (fun _ => (bQs_ct (n := 3) (lit_row (l := [2, 2, 5]) (e := TInt) (rng _ rfl) rfl (by decide) sb) (by decide)).setl kept_q) ?_
  rintro v3 U3 D3 hU3 ⟨h3, rfl⟩
  try rw [List.nil_append]
  have h3w : Ls (Wq 1) 4 3 U3 [] v3 a10V := Ls.toW h3 fun j hj => by rcases show j = 0 ∨ j = 1 ∨ j = 2 by omega with rfl | rfl | rfl <;> exact szq_small (by decide)
  obtain ⟨p3, c3, s3, rfl, -⟩ := id h3
  refine sl_call rfl rfl rfl rfl rfl rfl (fun _ => sCoordinates_ct (kept_s kept_w _ _ _ _ uc hS1w) a10_s h3w (by decide) (by decide) (by decide) (by decide) (by decide)) ?_
  rintro v4 U4 D4 hU4 ⟨vc, e4, rfl, -, he4, hc4, -, rfl⟩
  try rw [List.nil_append]
  obtain rfl := he4.2 a10_v
  have hc4 := hc4 rfl
  obtain ⟨p4, c4, s4, rfl, -⟩ := id hc4
  repeat (first | refine run_S ?_ | refine w_box (fun _ => ?_) | refine w_al (fun _ => ?_))
  refine sl_bslice (vs := [.int .i64 1, .int .i64 0, .int .i64 0]) sym rfl rfl rfl rfl rfl rfl (all_size rfl) rfl rfl rfl rfl rfl rfl (fun d7 => ?_)
  refine sl_bslice (vs := [.int .i64 0, .int .i64 1, .int .i64 1]) sym rfl rfl rfl rfl rfl rfl (all_size rfl) rfl rfl rfl rfl rfl rfl (fun d8 => ?_)
  refine sl_bslice (vs := [.slice (some ⟨d7, 0, none⟩) 3 3, .slice (some ⟨d8, 0, none⟩) 3 3]) sym rfl rfl rfl rfl rfl rfl (all_size rfl) rfl rfl rfl rfl rfl rfl (fun d9 => ?_)
  refine sl_call rfl rfl rfl rfl rfl rfl (fun _ => ct_setm (bRows_ct (r := 2) (c := 3) (lit_rows (ls := [[1, 0, 0], [0, 1, 1]]) rfl (by decide) (two_rows (lit_row (l := [1, 0, 0]) (e := TInt) (rng _ rfl) rfl (by decide) sb) (lit_row (l := [0, 1, 1]) (e := TInt) (rng _ rfl) rfl (by decide) sb)) sb) (by decide) (by decide) (by decide))) ?_
  rintro vh5 Uh5 D hU ⟨h5, rfl⟩
  rw [List.nil_append]
  repeat (first | refine run_S ?_ | refine w_box (fun _ => ?_) | refine w_al (fun _ => ?_))
  have z5 : ∀ i j, i < 2 → j < 3 → Szq (a10T i j) 1 := fun i j _ _ => zz_sz (small _ rfl) i j
  refine sl_call rfl rfl rfl rfl rfl rfl (fun _ => sSpan_ct (b := 1) (h5.w z5) (by decide) (by decide) (by decide) (by decide)) ?_
  rintro v6 U6 D6 hU6 ⟨r6, R6, q6, _, rfl, hS6, hE6, hs6, rfl⟩
  try rw [List.nil_append]
  obtain ⟨rfl, -, e6⟩ := a10_t.unique hE6 hs6.symm
  replace hS6 := hS6.congr (B := a10T) fun i j hi hj => (e6 i j hi hj).symm
  have hS6w := hS6.w z5
  obtain ⟨_, rfl, p6, c6, s6, rfl, -⟩ := id hS6
  repeat (first | refine run_S ?_ | refine w_box (fun _ => ?_) | refine w_al (fun _ => ?_))
  refine sl_call rfl rfl rfl rfl rfl rfl (fun _ => sIntersect_ok (w := 1 * 37 + 1) (kept_s kept_w _ _ _ _ uc hS1w) (kept_s kept_w _ _ _ _ uc hS6w) a10_s a10_t (hw_short (a := 1) z1 (by decide) (by decide)) (hw_short (a := 1) z5 (by decide) (by decide)) (by decide) (by decide) (by decide) (by decide)) ?_
  rintro v7 U7 D7 hU7 ⟨_, i7, I, q7, rfl, h7, hE7, hm7, -, rfl⟩
  try rw [List.nil_append]
  have hs7 : La.Same i7 1 3 I a10I := ⟨fun i hi => by
    obtain ⟨g1, g2⟩ := (hm7 _).1 (La.Sp.row hi)
    exact a10_both g1 g2, fun i hi => by
    rcases show i = 0 by omega with rfl
    exact (hm7 _).2 a10_in⟩
  obtain ⟨rfl, -, e7⟩ := hE7.unique a10_i hs7
  obtain ⟨_, rfl, p7, c7', s7, rfl, -⟩ := id h7
  repeat (first | refine run_S ?_ | refine w_box (fun _ => ?_) | refine w_al (fun _ => ?_))
  refine st_draw [0, 1, 2, 3, 4, 5, 6, 7, 8, 9, 10, 11, 12, 13, 14, 15, 16, 17, 18, 19, 20, 21, 22, 23, 24, 25, 26, 27, 28] sym (by kernel_rfl) ?_
  repeat (first | refine run_S ?_ | refine w_box (fun _ => ?_) | refine w_al (fun _ => ?_))
  refine sl_gdec rfl rfl (fun _ => ?_) (fun h => absurd rfl h)
  repeat (first | refine run_S ?_ | refine w_box (fun _ => ?_) | refine w_al (fun _ => ?_))
  refine sl_gdec rfl rfl (fun _ => ?_) (fun h => absurd rfl h)
  repeat (first | refine run_S ?_ | refine w_box (fun _ => ?_) | refine w_al (fun _ => ?_))
  refine sl_gdec rfl rfl (fun _ => ?_) (fun h => absurd rfl h)
  repeat (first | refine run_S ?_ | refine w_box (fun _ => ?_) | refine w_al (fun _ => ?_))
  refine sl_gdec rfl rfl (fun _ => ?_) (fun h => absurd rfl h)
  repeat (first | refine run_S ?_ | refine w_box (fun _ => ?_) | refine w_al (fun _ => ?_))
  refine sl_bslice (vs := [.int .i64 2, .int .i64 5]) sym rfl rfl rfl rfl rfl rfl (all_size rfl) rfl rfl rfl rfl rfl rfl (fun g7 => ?_)
  refine sl_call rfl rfl rfl rfl rfl rfl (fun _ => (bQs_ct (n := 2) (lit_row (l := [2, 5]) (e := TInt) (rng _ rfl) rfl (by decide) sb) (by decide)).setl kept_q) ?_
  rintro v8 U8 D8 hU8 ⟨h8, rfl⟩
  try rw [List.nil_append]
  refine sl_call rfl rfl rfl rfl rfl rfl (fun _ => bSameRats_ct (Ls.up (M' := _) hc4 kept_q uc (List.nil_sublist _)) (Ls.up (M' := _) h8 kept_q uc (List.nil_sublist _)) (by decide) (by decide)) ?_
  rintro v9 U9 D9 hU9 ⟨b, rfl, hb, rfl, rfl⟩
  try rw [List.nil_append]
  obtain rfl := hb.2 ⟨rfl, fun i hi => by
    rcases show i = 0 ∨ i = 1 by omega with rfl | rfl <;> rfl⟩
  repeat (first | refine run_S ?_ | refine w_box (fun _ => ?_) | refine w_al (fun _ => ?_))
  refine sl_bslice (vs := [.int .i64 1, .int .i64 1, .int .i64 1]) sym rfl rfl rfl rfl rfl rfl (all_size rfl) rfl rfl rfl rfl rfl rfl (fun g8 => ?_)
  refine sl_bslice (vs := [.slice (some ⟨g8, 0, none⟩) 3 3]) sym rfl rfl rfl rfl rfl rfl (all_size rfl) rfl rfl rfl rfl rfl rfl (fun g9 => ?_)
  refine sl_call rfl rfl rfl rfl rfl rfl (fun _ => ct_setm (bRows_ct (r := 1) (c := 3) (lit_rows (ls := [[1, 1, 1]]) rfl (by decide) (one_rows (lit_row (l := [1, 1, 1]) (e := TInt) (rng _ rfl) rfl (by decide) sb)) sb) (by decide) (by decide) (by decide))) ?_
  rintro vh10 Uh10 D hU ⟨h10, rfl⟩
  rw [List.nil_append]
  repeat (first | refine run_S ?_ | refine w_box (fun _ => ?_) | refine w_al (fun _ => ?_))
  refine sl_call rfl rfl rfl rfl rfl rfl (fun _ => bSameMatrix_ct (kept_m kept_q _ _ _ _ uc h7.vm) h10 (by decide) (by decide)) ?_
  rintro v11 U11 D11 hU11 ⟨b, rfl, hb, rfl, rfl⟩
  try rw [List.nil_append]
  obtain rfl := hb.2 ⟨rfl, rfl, e7⟩
  repeat (first | refine run_S ?_ | refine w_box (fun _ => ?_) | refine w_al (fun _ => ?_))
  exact sk_ret [] sym rfl (.cons (.tmp rfl) .nil) uc sb (.inl rfl) ⟨rfl, uc, rfl⟩

end Go.Proofs.YtocjmbilepbokaaGreat

/- Walks of subspace: what is refused. -/
namespace Go.Proofs.YtocjmbilepbokaaGreat
open Go.Hp
variable {G : World} {U U' : UH} {M M' : MH}

theorem LitS.form {v : Value} {d r c : Int} {n : Nat} {f : Nat → Rat} (h : LitS U v d r c n f) : ∃ (p : Option Addr) (cc : Nat), v = .agg #[.int .i64 d, .int .i64 r, .int .i64 c, .slice p n cc] ∧ n ≤ 36 := by
  obtain ⟨a, rfl, hn, -, _, he, p, cc, vs, rfl, -⟩ := h
  simp only [Value.agg.injEq, Array.mk.injEq, List.cons.injEq, and_true, true_and] at he
  subst he
  exact ⟨p, cc, rfl, hn⟩
theorem Lit.form {v : Value} {r c : Int} {n : Nat} {f : Nat → Rat} (h : Lit 6 U v r c n f) : ∃ (p : Option Addr) (cc : Nat), v = .agg #[.int .i64 r, .int .i64 c, .slice p n cc] ∧ n ≤ 36 := by
  obtain ⟨hn, -, _, rfl, p, cc, vs, rfl, -⟩ := h
  exact ⟨p, cc, rfl, hn⟩

/-- What has the form of a space, of a matrix. -/
def SpF (x : Value) : Prop := ∃ (d r c : Int) (p : Option Addr) (n cc : Nat), x = .agg #[.int .i64 d, .int .i64 r, .int .i64 c, .slice p n cc]
def MtF (x : Value) : Prop := ∃ (r c : Int) (p : Option Addr) (n cc : Nat), x = .agg #[.int .i64 r, .int .i64 c, .slice p n cc]
def BoF (x : Value) : Prop := ∃ b : Bool, x = .bool b
theorem Sv.form {ok : UH → Value → Rat → Prop} {r n : Nat} {v : Value} {A : Nat → Nat → Rat} (h : Sv ok r n U v A) : SpF v := by
  obtain ⟨_, rfl, p, c, vs, rfl, -⟩ := h; exact ⟨_, _, _, _, _, _, rfl⟩
theorem Vm.form {ok : UH → Value → Rat → Prop} {r n : Nat} {v : Value} {A : Nat → Nat → Rat} (h : Vm ok r n U v A) : MtF v := by
  obtain ⟨_, rfl, p, c, vs, rfl, -⟩ := h; exact ⟨_, _, _, _, _, rfl⟩

/-- The error of a pair. -/
def PErr (a b : Prop) (da db e : Int) : Prop := (e = 0 ∨ e = 3 ∨ e = 4) ∧ (e = 0 ↔ (a ∧ b) ∧ da = db) ∧ (e = 3 ↔ ¬ (a ∧ b))

theorem PErr.ok {a b : Prop} {da db : Int} (ha : a) (hb : b) (hd : da = db) : PErr a b da db 0 := ⟨.inl rfl, ⟨fun _ => ⟨⟨ha, hb⟩, hd⟩, fun _ => rfl⟩, (fun h => by cases h), fun h => absurd ⟨ha, hb⟩ h⟩

/-- The error of a map. -/
def MErr (a b : Prop) (e : Int) : Prop := (e = 3 ↔ ¬ a) ∧ (e = 4 ↔ a ∧ ¬ b)
theorem MErr.no {a b : Prop} (h : ¬ a) : MErr a b 3 := ⟨⟨fun _ => h, fun _ => rfl⟩, (fun h => by cases h), fun h1 => absurd h1.1 h⟩
theorem MErr.else {a b : Prop} {e : Int} (h : a) (h2 : b) (h3 : e ≠ 3) (h4 : e ≠ 4) : MErr a b e := ⟨⟨fun h5 => absurd h5 h3, fun h1 => absurd h h1⟩, fun h5 => absurd h5 h4, fun h5 => absurd h2 h5.2⟩

theorem sSpan_no {va : Value} {r c : Int} {n : Nat} {f : Nat → Rat} (ha : Lit 6 U va r c n f) (hV : ¬ Vld r c n) :
    Ct Tryz.prog 28 [va] G U M fun v _ D => v = .tuple #[.agg #[.int .i64 0, .int .i64 0, .int .i64 0, .slice none 0 0], .int .i64 4] ∧ D = [] := by
  obtain ⟨pt, cct, rfl, hnt⟩ := ha.form
  refine ct_of_st Tryz.func28 rfl rfl rfl rfl ?_
  repeat (first | refine run_S ?_ | refine w_box (fun _ => ?_) | refine w_al (fun _ => ?_))
  refine sl_call rfl rfl rfl rfl rfl rfl (fun _ => mEchelon_no (r := r) (c := c) (n := n) (p := pt) (cc := cct) (by omega) hV) ?_
  rintro v1 U1 D1 hU1 ⟨rfl, r1, c1, p1, n1, cc1, p2, n2, c2, rfl⟩
  try rw [List.nil_append]
  repeat (first | refine run_S ?_ | refine w_box (fun _ => ?_) | refine w_al (fun _ => ?_))
  refine st_ne rfl (fun _ => ?_) (fun h2 => absurd h2 (by decide))
  repeat (first | refine run_S ?_ | refine w_box (fun _ => ?_) | refine w_al (fun _ => ?_))
  exact sk_ret [] sym rfl (.cons (.cell 1 rfl rfl rfl) (.cons (.tmp rfl) .nil)) uc sb (.inl rfl) ⟨rfl, rfl⟩

theorem sWhole_no {n : Int} (h : ¬ (0 ≤ n ∧ n ≤ 1024)) :
    Ct Tryz.prog 29 [.int .i64 n] G U M fun v _ D => v = .tuple #[.agg #[.int .i64 0, .int .i64 0, .int .i64 0, .slice none 0 0], .int .i64 4] ∧ D = [] := by
  refine ct_of_st Tryz.func29 rfl rfl rfl rfl ?_
  repeat (first | refine run_S ?_ | refine w_box (fun _ => ?_) | refine w_al (fun _ => ?_))
  refine sl_call rfl rfl rfl rfl rfl rfl (fun _ => mIdentity_err h) ?_
  rintro v1 U1 D1 hU1 ⟨rfl, rfl, rfl⟩
  try rw [List.nil_append]
  repeat (first | refine run_S ?_ | refine w_box (fun _ => ?_) | refine w_al (fun _ => ?_))
  refine sl_call rfl rfl rfl rfl rfl rfl (fun _ => sspace_raw) ?_
  rintro v2 U2 D2 hU2 ⟨rfl, rfl⟩
  try rw [List.nil_append]
  repeat (first | refine run_S ?_ | refine w_box (fun _ => ?_) | refine w_al (fun _ => ?_))
  exact sk_ret [] sym rfl (.cons (.cell 1 rfl rfl rfl) (.cons (.tmp rfl) .nil)) uc sb (.inl rfl) ⟨rfl, rfl⟩
theorem sZero_no {n : Int} (h : ¬ (0 ≤ n ∧ n ≤ 1024)) :
    Ct Tryz.prog 30 [.int .i64 n] G U M fun v _ D => v = .tuple #[.agg #[.int .i64 0, .int .i64 0, .int .i64 0, .slice none 0 0], .int .i64 4] ∧ D = [] := by
  refine ct_of_st Tryz.func30 rfl rfl rfl rfl ?_
  repeat (first | refine run_S ?_ | refine w_box (fun _ => ?_) | refine w_al (fun _ => ?_))
  refine sl_call rfl rfl rfl rfl rfl rfl (fun _ => mNew_err (r := 0) (c := n) (fun h2 => h h2.2)) ?_
  rintro v1 U1 D1 hU1 ⟨rfl, rfl, rfl⟩
  try rw [List.nil_append]
  repeat (first | refine run_S ?_ | refine w_box (fun _ => ?_) | refine w_al (fun _ => ?_))
  refine sl_call rfl rfl rfl rfl rfl rfl (fun _ => sspace_raw) ?_
  rintro v2 U2 D2 hU2 ⟨rfl, rfl⟩
  try rw [List.nil_append]
  repeat (first | refine run_S ?_ | refine w_box (fun _ => ?_) | refine w_al (fun _ => ?_))
  exact sk_ret [] sym rfl (.cons (.cell 1 rfl rfl rfl) (.cons (.tmp rfl) .nil)) uc sb (.inl rfl) ⟨rfl, rfl⟩

end Go.Proofs.YtocjmbilepbokaaGreat
