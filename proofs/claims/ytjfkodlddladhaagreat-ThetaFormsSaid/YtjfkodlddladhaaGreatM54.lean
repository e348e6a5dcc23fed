/- Texts of this seat's own, merged: each begins with its own remark. -/
import Derived.Test.YtjfkodlddladhaaGreatM53
import Derived.Test.YtjfkodlddladhaaGreatM52
import Derived.Test.YtjfkodlddladhaaGreatM35
/- The example of layer 36: plain part. -/
namespace Go.Proofs.YtjfkodlddladhaaGreat
open Go.Hp
variable {G : World} {U U' : UH} {M : MH}
theorem vol_congr {b b' : Nat → Nat} {n : Nat} (h : ∀ i, i < n → b i = b' i) : ∀ k, k ≤ n → Bx.vol b n k = Bx.vol b' n k
 | 0, _ => rfl
 | k + 1, hk => by
  show (2 * b (n - (k + 1)) + 1) * Bx.vol b n k = _
  rw [vol_congr h k (by omega), h _ (by omega)]; rfl
theorem vec_congr {b b' : Nat → Nat} {n k i : Nat} (h : ∀ i, i < n → b i = b' i) (hi : i < n) : Bx.vec b n k i = Bx.vec b' n k i := by
 unfold Bx.vec Bx.dig Bx.str
 rw [vol_congr h _ (by omega), h i hi]
theorem pre_congr {b b' : Nat → Nat} : ∀ {n : Nat}, (∀ i, i < n → b i = b' i) → Bx.pre b n = Bx.pre b' n
 | 0, _ => rfl
 | n + 1, h => by
  show Bx.pre b n * (2 * b n + 1) = _
  rw [pre_congr fun i hi => h i (by omega), h n (by omega)]; rfl
theorem qv_congr {n : Nat} {f x y : Nat → Int} (h : ∀ i, i < n → x i = y i) : qv n f x = qv n f y := by
 unfold qv qp rp
 rw [Lr.sm_congr fun a ha => by rw [h a ha, Lr.sm_congr fun j hj => by rw [h j hj]]]
theorem vn_congr {n k : Nat} {f : Nat → Int} {b b' : Nat → Nat} (h : ∀ i, i < n → b i = b' i) : vn n f b k = vn n f b' k := by
 unfold vn
 rw [qv_congr fun i hi => vec_congr h hi]
theorem cv_congr {n k q : Nat} {f : Nat → Int} {b b' : Nat → Nat} (h : ∀ i, i < n → b i = b' i) : cv n f b k q = cv n f b' k q :=
 Bx.cnt_congr fun t _ => by rw [vn_congr h]
def fa2 : Nat → Int := fun k => ([2, 1, 1, 2] : List Int).getD k 0
theorem a2_pdm : Pdm 2 fa2 := fun k h1 h2 => by
 have e : La.det k (fun i j => ((fa2 (i * 2 + j) : Int) : Rat)) = ((Lr.det k (fun i j => fa2 (i * 2 + j)) : Int) : Rat) := by
  have h := Fq.hom_q.det k fun i j => fa2 (i * 2 + j)
  rw [Lr.det_la] at h
  exact h.symm
 rw [e]
 refine Rat.intCast_lt_intCast.2 ?_
 rcases show k = 1 ∨ k = 2 by omega with rfl | rfl <;> decide
theorem a2_chk : chk 2 4 fa2 = 0 := by
 unfold chk
 rw [if_neg (by decide), if_neg (by decide), if_neg (Classical.not_not.2 (by
  intro k hk
  rcases show k = 0 ∨ k = 1 ∨ k = 2 ∨ k = 3 by omega with rfl | rfl | rfl | rfl <;> decide)), if_neg (Classical.not_not.2 (show Evn (Int.toNat 2) fa2 from fun i (hi : i < 2) => ⟨fun k (hk : k < 2) => by
   rcases show i = 0 ∨ i = 1 by omega with rfl | rfl <;> rcases show k = 0 ∨ k = 1 by omega with rfl | rfl <;> rfl, by rcases show i = 0 ∨ i = 1 by omega with rfl | rfl <;> decide⟩)), if_neg (Classical.not_not.2 (show Pdm (Int.toNat 2) fa2 from a2_pdm))]
theorem a2_inv {X : Nat → Nat → Rat} (hX : ∀ i j, i < 2 → j < 2 → La.mm 2 X (gq 2 fa2) i j = La.idm i j) : Inv 2 fa2 X := by
 obtain ⟨n, e, h1, h8, -, hb, he, hp⟩ := chk_zero a2_chk
 obtain rfl : 2 = n := Int.ofNat.inj e
 exact inv_of hb he hp h1 h8 hX
theorem a2_val {X : Nat → Nat → Rat} (h : Inv 2 fa2 X) : X 0 0 = 2 / 3 ∧ X 0 1 = -1 / 3 ∧ X 1 0 = -1 / 3 ∧ X 1 1 = 2 / 3 := by
 have h3 : (3 : Rat) ≠ 0 := by decide
 have key : ∀ (x a : Rat), 3 * x = a → x = a / 3 := fun x a e => by rw [← e, Rat.div_def, Rat.mul_comm 3 x, Rat.mul_assoc, Rat.mul_inv_cancel _ h3, Rat.mul_one]
 have hd : Lr.det 2 (gz 2 fa2) = 3 := by decide
 have a := h.adj
 rw [hd] at a
 exact ⟨key _ _ ((a 0 0 (by decide) (by decide)).trans (by rw [show Lr.adj 2 (gz 2 fa2) 0 0 = 2 by decide]; rfl)), key _ _ ((a 0 1 (by decide) (by decide)).trans (by rw [show Lr.adj 2 (gz 2 fa2) 0 1 = -1 by decide]; rfl)),
  key _ _ ((a 1 0 (by decide) (by decide)).trans (by rw [show Lr.adj 2 (gz 2 fa2) 1 0 = -1 by decide]; rfl)), key _ _ ((a 1 1 (by decide) (by decide)).trans (by rw [show Lr.adj 2 (gz 2 fa2) 1 1 = 2 by decide]; rfl))⟩
theorem a2_bd {X : Nat → Nat → Rat} (h : Inv 2 fa2 X) : ∀ i, i < 2 → bd X 3 i = 2 := fun i hi => by
 obtain ⟨x0, -, -, x1⟩ := a2_val h
 have e : ((((2 * (3 : Nat) : Int)) : Rat) * (2 / 3)).floor.natAbs = 4 := by decide +kernel
 unfold bd
 rcases show i = 0 ∨ i = 1 by omega with rfl | rfl
 ·rw [x0, e]; exact (Bx.isq_at (A := 4) (R := 2) (by decide) (by decide)).symm
 ·rw [x1, e]; exact (Bx.isq_at (A := 4) (R := 2) (by decide) (by decide)).symm
theorem a2_lv {X : Nat → Nat → Rat} (h : Inv 2 fa2 X) : Fq.lv (dlv 2 X) (2 * 2) = 3 := by
 obtain ⟨x0, x1, x2, x3⟩ := a2_val h
 have d0 : dlv 2 X 0 = 3 := by show (X 0 0 * ((1 : Rat) / 2)).den = 3; rw [x0]; decide +kernel
 have d1 : dlv 2 X 1 = 3 := by show (X 0 1).den = 3; rw [x1]; decide +kernel
 have d2 : dlv 2 X 2 = 3 := by show (X 1 0).den = 3; rw [x2]; decide +kernel
 have d3 : dlv 2 X 3 = 3 := by show (X 1 1 * ((1 : Rat) / 2)).den = 3; rw [x3]; decide +kernel
 show Fq.lv (dlv 2 X) (0 + 1 + 1 + 1 + 1) = 3
 simp only [Fq.lv, Nat.zero_add, d0, d1, d2, d3]
 decide
theorem a2_cv : ∀ q, q < 4 → cv 2 fa2 (fun _ => 2) 25 q = ([1, 6, 0, 6] : List Nat).getD q 0 := fun q hq => by
 rcases show q = 0 ∨ q = 1 ∨ q = 2 ∨ q = 3 by omega with rfl | rfl | rfl | rfl <;> decide +kernel
end Go.Proofs.YtjfkodlddladhaaGreat

/- Walks of layer 36: SameSeries, awake. -/
namespace Go.Proofs.YtjfkodlddladhaaGreat
open Go.Hp
variable {G : World} {U U' : UH} {M : MH}
theorem bSameSeries_ct {v w : Value} {f1 f2 : Int} {m n : Nat} {g g' : Nat → Rat} (h : Vser Vq U M v f1 m g) (h' : Vser Vq U M w f2 n g') (hm : m ≤ 1000000000) (hn : n ≤ 1000000000) :
  Ct Tryz.prog 18 [v, w] G U M fun v U' D => ∃ b : Bool, v = .bool b ∧ (b = true ↔ f1 = f2 ∧ m = n ∧ ∀ i, i < n → g i = g' i) ∧ U = U' ∧ D = [] := by
 obtain ⟨_, rfl, h1⟩ := h
 obtain ⟨_, rfl, h2⟩ := h'
 obtain ⟨p, c, vs, rfl, -⟩ := id h1
 obtain ⟨p', c', vs', rfl, -⟩ := id h2
 refine ct_of_st Tryz.func18 rfl rfl rfl rfl ?_
 repeat (first|refine run_S ?_|refine w_box fun _=>?_|refine w_al fun _=>?_)
 refine sl_gdec rfl rfl (fun he => ?_) (fun he => ?_)
 ·repeat (first|refine run_S ?_|refine w_box fun _=>?_|refine w_al fun _=>?_)
  refine sl_call rfl rfl rfl rfl rfl rfl (fun _ => bSameRats_ct (h1.up kept_q uc sb) (h2.up kept_q uc sb) hm hn) ?_
  rintro v1 U1 D1 hU1 ⟨b, rfl, hb, rfl, rfl⟩
  rw [List.nil_append]
  repeat (first|refine run_S ?_|refine w_box fun _=>?_|refine w_al fun _=>?_)
  exact sk_ret [] sym rfl (.cons (.tmp rfl) .nil) uc sb (.inl rfl) ⟨b, rfl, ⟨fun h => ⟨he, hb.1 h⟩, fun h => hb.2 h.2⟩, rfl, rfl⟩
 ·repeat (first|refine run_S ?_|refine w_box fun _=>?_|refine w_al fun _=>?_)
  exact sk_ret [] sym rfl (.cons (.tmp rfl) .nil) uc sb (.inl rfl) ⟨false, rfl, ⟨(fun h => by cases h), fun h => absurd h.1 he⟩, rfl, rfl⟩
theorem awake36_ct : Ct Tryz.prog 15 [] G U M fun v U' D => v = .bool true ∧ ULe U U' ∧ D = [] := by
 have rng : ∀ l : List Int, (l.all fun z => decide (-9223372036854775808 ≤ z ∧ z ≤ 9223372036854775807)) = true → ∀ z ∈ l, -9223372036854775808 ≤ z ∧ z ≤ 9223372036854775807 := fun l h z hz => of_decide_eq_true (List.all_eq_true.1 h z hz)
 refine ct_of_st Tryz.func15 rfl rfl rfl rfl ?_
 repeat (first|refine run_S ?_|refine w_box fun _=>?_|refine w_al fun _=>?_)
 refine sl_bslice (vs := [.int .i64 2, .int .i64 1, .int .i64 1, .int .i64 2]) sym rfl rfl rfl rfl rfl rfl (all_size rfl) rfl rfl rfl rfl rfl rfl (fun b6 => ?_)
 repeat (first|refine run_O ?_|refine w_box fun _=>?_|refine w_al fun _=>?_)
 rename_i b1
 refine st_perm (M' := ([(b6, Blk.arr [.int .i64 2, .int .i64 1, .int .i64 1, .int .i64 2], TInt)] : MH) ++ ((b1, .var (.agg #[.int .i64 2, .slice (some ⟨b6, 0, none⟩) 4 4]), 24) :: M)) (List.Perm.swap _ _ _) ?_
 refine st_settleAll fun Us hUs hs => ?_
 have hrow : RowO TInt 1 [(b6, .arr [.int .i64 2, .int .i64 1, .int .i64 1, .int .i64 2], TInt)] (some ⟨b6, 0, none⟩) 4 4 [.int .i64 2, .int .i64 1, .int .i64 1, .int .i64 2] := RowO.mk rfl (all_size rfl) (by decide)
 have rw1 := hrow.sett hs
 have el : El Vz Us [.int .i64 2, .int .i64 1, .int .i64 1, .int .i64 2] fa2 := fun k x hk => by
  have hk4 : k < 4 := (List.getElem?_eq_some_iff.1 hk).1
  rcases show k = 0 ∨ k = 1 ∨ k = 2 ∨ k = 3 by omega with rfl | rfl | rfl | rfl <;> cases hk <;> exact ⟨rfl, by decide, by decide⟩
 clear hrow hs
 try refine run_s ?_
 refine sl_call rfl rfl rfl rfl rfl rfl (fun _ => tExpansion_ct (r := 2) (prec := 4) rw1 el (by decide) (by decide)) ?_
 rintro v2 U2 D2 hU2 ⟨-, hv, rfl⟩
 rw [List.nil_append]
 obtain ⟨X, hX, hv, -⟩ := (hv 2 rfl a2_chk).2 4 rfl (by decide)
 have hbd := a2_bd hX
 have hpre : Bx.pre (bd X (4 - 1)) 2 = 25 := (pre_congr (b' := fun _ => 2) hbd).trans rfl
 rw [hpre] at hv
 obtain ⟨s, r, hs, rfl, _, rfl, hser⟩ := hv (by decide)
 have hg : ∀ q, q < 4 → cv 2 fa2 (bd X (4 - 1)) 25 q = ([1, 6, 0, 6] : List Nat).getD q 0 := fun q hq => (cv_congr (b' := fun _ => 2) hbd).trans (a2_cv q hq)
 obtain rfl : s = 0 := by
  rcases Nat.eq_zero_or_pos s with h | h
  ·exact h
  ·have h1 : (((cv 2 fa2 (bd X (4 - 1)) 25 0 : Nat) : Int) : Rat) = 0 := hs.2.1 0 h
   rw [hg 0 (by decide)] at h1
   exact absurd h1 (by decide)
 obtain ⟨pv, cw, us, rfl, -⟩ := id hser
 repeat (first|refine run_S ?_|refine w_box fun _=>?_|refine w_al fun _=>?_)
 refine sl_call rfl rfl rfl rfl rfl rfl (fun _ => tLevel_ct (r := 2) (rw1.up uc (List.nil_sublist _)) (el.up KeptC.out uc) (by decide)) ?_
 rintro v3 U3 D3 hU3 ⟨-, hl, rfl⟩
 rw [List.nil_append]
 obtain ⟨Y, hY, rfl⟩ := hl 2 rfl a2_chk
 rw [a2_lv (a2_inv hY), if_pos (by decide)]
 repeat (first|refine run_S ?_|refine w_box fun _=>?_|refine w_al fun _=>?_)
 refine st_draw [0, 1, 2, 3, 4, 5, 6, 7, 8, 9, 10, 11, 12, 13, 14, 15, 16, 17] sym (by kernel_rfl) ?_
 repeat (first|refine run_S ?_|refine w_box fun _=>?_|refine w_al fun _=>?_)
 refine sl_gdec rfl rfl (fun _ => ?_) (fun h => absurd rfl h)
 repeat (first|refine run_S ?_|refine w_box fun _=>?_|refine w_al fun _=>?_)
 refine sl_gdec rfl rfl (fun _ => ?_) (fun h => absurd rfl h)
 repeat (first|refine run_S ?_|refine w_box fun _=>?_|refine w_al fun _=>?_)
 refine sl_gdec rfl rfl (fun _ => ?_) (fun h => absurd rfl h)
 repeat (first|refine run_S ?_|refine w_box fun _=>?_|refine w_al fun _=>?_)
 refine sl_bslice (vs := [.int .i64 1, .int .i64 6, .int .i64 0, .int .i64 6]) sym rfl rfl rfl rfl rfl rfl (all_size rfl) rfl rfl rfl rfl rfl rfl (fun b8 => ?_)
 repeat (first|refine run_S ?_|refine w_box fun _=>?_|refine w_al fun _=>?_)
 refine sl_call rfl rfl rfl rfl rfl rfl (fun _ => (bQs_ct (n := 4) (lit_row (l := [1, 6, 0, 6]) (e := TInt) (rng _ rfl) rfl (by decide) sb) (by decide)).setl kept_q) ?_
 rintro v8 U8 D8 hU8 ⟨h8, rfl⟩
 try rw [List.nil_append]
 obtain ⟨p8, c8, us8, rfl, -⟩ := id h8
 repeat (first|refine run_S ?_|refine w_box fun _=>?_|refine w_al fun _=>?_)
 refine sl_call rfl rfl rfl rfl rfl rfl (fun _ => bSameSeries_ct (m := 4) (n := 4) (g := fun k => (((cv 2 fa2 (bd X (4 - 1)) 25 (0 + k) : Nat) : Int) : Rat)) (g' := fun k => ((([1, 6, 0, 6] : List Int).getD k 0 : Int) : Rat)) ⟨_, rfl, hser.up kept_q uc sb⟩ ⟨_, rfl, h8.up kept_q uc sb⟩ (by decide) (by decide)) ?_
 rintro v9 U9 D9 hU9 ⟨b, rfl, hb, rfl, rfl⟩
 obtain rfl := hb.2 ⟨rfl, rfl, fun q hq => by
  show (((cv 2 fa2 (bd X (4 - 1)) 25 (0 + q) : Nat) : Int) : Rat) = _
  rw [Nat.zero_add, hg q hq]
  rcases show q = 0 ∨ q = 1 ∨ q = 2 ∨ q = 3 by omega with rfl | rfl | rfl | rfl <;> rfl⟩
 rw [List.nil_append]
 repeat (first|refine run_S ?_|refine w_box fun _=>?_|refine w_al fun _=>?_)
 exact sk_ret [] sym rfl (.cons (.tmp rfl) .nil) uc sb (.inl rfl) ⟨rfl, uc, rfl⟩
end Go.Proofs.YtjfkodlddladhaaGreat

/- Walks of layer 36: binary forms are checked. -/
namespace Go.Hp
variable {P : Program} {T : TT} {N : Nat} {G : World} {E : Env} {U : UH} {M : MH} {o : Oper}
end Go.Hp
namespace Go.Proofs.YtjfkodlddladhaaGreat
open Go.Hp
variable {G : World} {U U' : UH} {M : MH}
end Go.Proofs.YtjfkodlddladhaaGreat

/- Walks of layer 36: binary forms (printed by gen215.py). -/
namespace Go.Proofs.YtjfkodlddladhaaGreat
open Go.Hp
open Classical
variable {G : World} {U U' : UH} {M : MH}
noncomputable def chq (a b c : Int) : Int := if ¬ ((-10000 ≤ a ∧ a ≤ 10000) ∧ (-10000 ≤ b ∧ b ≤ 10000) ∧ (-10000 ≤ c ∧ c ≤ 10000)) then 2 else if a ≤ 0 ∨ b * b - 4 * a * c ≥ 0 then 27 else 0
end Go.Proofs.YtjfkodlddladhaaGreat

/- Walks of layer 36: Binary, fits, same. -/
namespace Go.Proofs.YtjfkodlddladhaaGreat
open Go.Hp
open Classical
variable {G : World} {U U' : UH} {M : MH}
def Ins (N : Nat) (f : Nat → Int) : Prop := ∀ k, k < N → -1000 ≤ f k ∧ f k ≤ 1000
def BinO (a b c : Int) (U' : UH) (v : Value) : Prop :=
 (chq a b c ≠ 0 → v = .tuple #[.agg #[.int .i64 0, .slice none 0 0], .int .i64 (chq a b c)]) ∧
 (chq a b c = 0 → ¬ Ins 4 (fun k => ([2 * a, b, b, 2 * c] : List Int).getD k 0) → v = .tuple #[.agg #[.int .i64 0, .slice none 0 0], .int .i64 7]) ∧
 (chq a b c = 0 → Ins 4 (fun k => ([2 * a, b, b, 2 * c] : List Int).getD k 0) → ∃ s, v = .tuple #[.agg #[.int .i64 2, s], .int .i64 0] ∧ Ls Vz 1 4 U' [] s (fun k => ([2 * a, b, b, 2 * c] : List Int).getD k 0))
def BinC (a b c : Int) (U' : UH) (D : MH) (v : Value) : Prop :=
 (chq a b c ≠ 0 → v = .tuple #[.agg #[.int .i64 0, .slice none 0 0], .int .i64 (chq a b c)]) ∧
 (chq a b c = 0 → ¬ Ins 4 (fun k => ([2 * a, b, b, 2 * c] : List Int).getD k 0) → v = .tuple #[.agg #[.int .i64 0, .slice none 0 0], .int .i64 7]) ∧
 (chq a b c = 0 → Ins 4 (fun k => ([2 * a, b, b, 2 * c] : List Int).getD k 0) → ∃ s, v = .tuple #[.agg #[.int .i64 2, s], .int .i64 0] ∧ Lo Vz TInt 1 4 U' D s (fun k => ([2 * a, b, b, 2 * c] : List Int).getD k 0))
end Go.Proofs.YtjfkodlddladhaaGreat
