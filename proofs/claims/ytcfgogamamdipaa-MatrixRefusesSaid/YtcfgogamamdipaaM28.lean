/- Texts of this seat's own, merged: each begins with its own remark. -/
import Derived.Test.YtcfgogamamdipaaM25
import Derived.Test.YtcfgogamamdipaaM27
import Derived.Test.YtcfgogamamdipaaM26
import Derived.Test.YtcfgogamamdipaaB103
/- The functions of matrix: what they answer to matrices that are not valid, and to sizes that do not fit. -/
namespace Go.Proofs.Ytcfgogamamdipaa
open Go.Hp
variable {G : World} {U U' : UH} {M M' : MH}

theorem _root_.Go.Hp.Ct.forget {P : Program} {f : Nat} {args : List Value} {R : Value → UH → MH → Prop} (h : Ct P f args G U M R) : Ct P f args G U M fun v U' D => D = [] ∧ ∃ D', R v U' D' :=
  ⟨h.callable, fun w hw => (h.calls w hw).mono fun _ _ ⟨v, U', D, h1, h2, h3, h4⟩ => ⟨v, U', [], h1, h2, h3.anti (ULe.refl _) (List.sublist_append_right _ _), rfl, D, h4⟩⟩

/-- A matrix, a fraction, a slice and so on beside an error. -/
def OutM (e : Int) (v : Value) : Prop := ∃ (r c : Int) (p : Option Addr) (n cc : Nat), v = .tuple #[.agg #[.int .i64 r, .int .i64 c, .slice p n cc], .int .i64 e]
def OutQ (e : Int) (v : Value) : Prop := ∃ x : QV, v = .tuple #[x.v, .int .i64 e]
def OutS (e : Int) (v : Value) : Prop := ∃ (p : Option Addr) (n c : Nat), v = .tuple #[.slice p n c, .int .i64 e]
def OutE (e : Int) (v : Value) : Prop := ∃ (r c : Int) (p : Option Addr) (n cc : Nat) (p2 : Option Addr) (n2 c2 : Nat), v = .tuple #[.agg #[.int .i64 r, .int .i64 c, .slice p n cc], .slice p2 n2 c2, .int .i64 e]
def OutT (e : Int) (v : Value) : Prop := ∃ a b c : Value, v = .tuple #[a, b, c, .int .i64 e]
def OutI (e : Int) (v : Value) : Prop := ∃ a : Value, v = .tuple #[a, .int .i64 e]
theorem OutM.of {r c e : Int} {vC : Value} {ok : UH → Value → Rat → Prop} {n : Nat} {f : Nat → Rat} {D : MH} {U : UH} (h : ∃ a, vC = .agg #[.int .i64 r, .int .i64 c, a] ∧ (Ls ok 4 n U D a f ∨ Lo ok TR 4 n U D a f)) : OutM e (.tuple #[vC, .int .i64 e]) := by
  obtain ⟨_, rfl, ⟨p, c', vs, rfl, -⟩ | ⟨p, c', vs, rfl, -⟩⟩ := h <;> exact ⟨_, _, _, _, _, rfl⟩
theorem OutS.of {e : Int} {vC : Value} {ok : UH → Value → Rat → Prop} {n : Nat} {f : Nat → Rat} {D : MH} {U : UH} (h : Ls ok 4 n U D vC f) : OutS e (.tuple #[vC, .int .i64 e]) := by
  obtain ⟨p, c', vs, rfl, -⟩ := h; exact ⟨_, _, _, rfl⟩
/-- The error of a refusal. -/
def cod (p : Prop) [Decidable p] : Int := if p then 0 else 4
theorem cod_y {p : Prop} [Decidable p] (h : p) : cod p = 0 := if_pos h
theorem cod_n {p : Prop} [Decidable p] (h : ¬ p) : cod p = 4 := if_neg h

theorem mTranspose_no {r c : Int} {n cc : Nat} {p : Option Addr} (hn : n ≤ 9223372036854775807) (h : ¬ (Vld r c n)) :
    Ct Try.prog 10 [.agg #[.int .i64 r, .int .i64 c, .slice p n cc]] G U M fun v _ D => D = [] ∧ OutM 4 v := by
  refine ct_of_st Try.func10 rfl rfl rfl rfl ?_
  repeat (first | refine run_S ?_ | refine w_box (fun _ => ?_) | refine w_al (fun _ => ?_))
  refine sl_call rfl rfl rfl rfl rfl rfl (fun _ => mValid_ct (r := r) (c := c) (p := p) (cc := cc) hn) ?_
  rintro v U' D hU ⟨rfl, rfl, rfl⟩
  repeat (first | refine run_S ?_ | refine w_box (fun _ => ?_) | refine w_al (fun _ => ?_))
  rw [decide_eq_false h]
  repeat (first | refine run_S ?_ | refine w_box (fun _ => ?_) | refine w_al (fun _ => ?_))
  exact sk_ret [] sym rfl (.cons (.cell 0 rfl rfl rfl) (.cons (.tmp rfl) .nil)) uc sb (.inl rfl) ⟨rfl, _, _, _, _, _, rfl⟩

theorem mEchelon_no {r c : Int} {n cc : Nat} {p : Option Addr} (hn : n ≤ 9223372036854775807) (h : ¬ (Vld r c n)) :
    Ct Try.prog 11 [.agg #[.int .i64 r, .int .i64 c, .slice p n cc]] G U M fun v _ D => D = [] ∧ OutE 4 v := by
  refine ct_of_st Try.func11 rfl rfl rfl rfl ?_
  repeat (first | refine run_S ?_ | refine w_box (fun _ => ?_) | refine w_al (fun _ => ?_))
  refine sl_call rfl rfl rfl rfl rfl rfl (fun _ => mValid_ct (r := r) (c := c) (p := p) (cc := cc) hn) ?_
  rintro v U' D hU ⟨rfl, rfl, rfl⟩
  repeat (first | refine run_S ?_ | refine w_box (fun _ => ?_) | refine w_al (fun _ => ?_))
  rw [decide_eq_false h]
  repeat (first | refine run_S ?_ | refine w_box (fun _ => ?_) | refine w_al (fun _ => ?_))
  exact sk_ret [] sym rfl (.cons (.cell 0 rfl rfl rfl) (.cons (.tmp rfl) (.cons (.tmp rfl) .nil))) uc sb (.inl rfl) ⟨rfl, _, _, _, _, _, _, _, _, rfl⟩

theorem mKernel_no {r c : Int} {n cc : Nat} {p : Option Addr} (hn : n ≤ 9223372036854775807) (h : ¬ (Vld r c n)) :
    Ct Try.prog 12 [.agg #[.int .i64 r, .int .i64 c, .slice p n cc]] G U M fun v _ D => D = [] ∧ OutM 4 v := by
  refine ct_of_st Try.func12 rfl rfl rfl rfl ?_
  repeat (first | refine run_S ?_ | refine w_box (fun _ => ?_) | refine w_al (fun _ => ?_))
  refine sl_call rfl rfl rfl rfl rfl rfl (fun _ => mValid_ct (r := r) (c := c) (p := p) (cc := cc) hn) ?_
  rintro v U' D hU ⟨rfl, rfl, rfl⟩
  repeat (first | refine run_S ?_ | refine w_box (fun _ => ?_) | refine w_al (fun _ => ?_))
  rw [decide_eq_false h]
  repeat (first | refine run_S ?_ | refine w_box (fun _ => ?_) | refine w_al (fun _ => ?_))
  exact sk_ret [] sym rfl (.cons (.cell 0 rfl rfl rfl) (.cons (.tmp rfl) .nil)) uc sb (.inl rfl) ⟨rfl, _, _, _, _, _, rfl⟩

theorem mRow_no {r c i : Int} {n cc : Nat} {p : Option Addr} (hn : n ≤ 9223372036854775807) (h : ¬ (Vld r c n)) :
    Ct Try.prog 23 [.agg #[.int .i64 r, .int .i64 c, .slice p n cc], .int .i64 i] G U M fun v _ D => D = [] ∧ OutS 4 v := by
  refine ct_of_st Try.func23 rfl rfl rfl rfl ?_
  repeat (first | refine run_S ?_ | refine w_box (fun _ => ?_) | refine w_al (fun _ => ?_))
  refine sl_call rfl rfl rfl rfl rfl rfl (fun _ => mValid_ct (r := r) (c := c) (p := p) (cc := cc) hn) ?_
  rintro v U' D hU ⟨rfl, rfl, rfl⟩
  repeat (first | refine run_S ?_ | refine w_box (fun _ => ?_) | refine w_al (fun _ => ?_))
  rw [decide_eq_false h]
  repeat (first | refine run_S ?_ | refine w_box (fun _ => ?_) | refine w_al (fun _ => ?_))
  exact sk_ret [] sym rfl (.cons (.tmp rfl) (.cons (.tmp rfl) .nil)) uc sb (.inl rfl) ⟨rfl, _, _, _, rfl⟩

theorem mPower_no {r c i : Int} {n cc : Nat} {p : Option Addr} (hn : n ≤ 9223372036854775807) (h : ¬ (Vld r c n ∧ r = c)) :
    Ct Try.prog 14 [.agg #[.int .i64 r, .int .i64 c, .slice p n cc], .int .i64 i] G U M fun v _ D => D = [] ∧ OutM 4 v := by
  refine ct_of_st Try.func14 rfl rfl rfl rfl ?_
  repeat (first | refine run_S ?_ | refine w_box (fun _ => ?_) | refine w_al (fun _ => ?_))
  refine sl_call rfl rfl rfl rfl rfl rfl (fun _ => msquare_ct (r := r) (c := c) (p := p) (cc := cc) hn) ?_
  rintro v U' D hU ⟨rfl, rfl, rfl⟩
  repeat (first | refine run_S ?_ | refine w_box (fun _ => ?_) | refine w_al (fun _ => ?_))
  rw [decide_eq_false h]
  repeat (first | refine run_S ?_ | refine w_box (fun _ => ?_) | refine w_al (fun _ => ?_))
  exact sk_ret [] sym rfl (.cons (.cell 0 rfl rfl rfl) (.cons (.tmp rfl) .nil)) uc sb (.inl rfl) ⟨rfl, _, _, _, _, _, rfl⟩

theorem mInverse_no {r c : Int} {n cc : Nat} {p : Option Addr} (hn : n ≤ 9223372036854775807) (h : ¬ (Vld r c n ∧ r = c)) :
    Ct Try.prog 13 [.agg #[.int .i64 r, .int .i64 c, .slice p n cc]] G U M fun v _ D => D = [] ∧ OutM 4 v := by
  refine ct_of_st Try.func13 rfl rfl rfl rfl ?_
  repeat (first | refine run_S ?_ | refine w_box (fun _ => ?_) | refine w_al (fun _ => ?_))
  refine sl_call rfl rfl rfl rfl rfl rfl (fun _ => msquare_ct (r := r) (c := c) (p := p) (cc := cc) hn) ?_
  rintro v U' D hU ⟨rfl, rfl, rfl⟩
  repeat (first | refine run_S ?_ | refine w_box (fun _ => ?_) | refine w_al (fun _ => ?_))
  rw [decide_eq_false h]
  repeat (first | refine run_S ?_ | refine w_box (fun _ => ?_) | refine w_al (fun _ => ?_))
  exact sk_ret [] sym rfl (.cons (.cell 0 rfl rfl rfl) (.cons (.tmp rfl) .nil)) uc sb (.inl rfl) ⟨rfl, _, _, _, _, _, rfl⟩

theorem mDet_no {r c : Int} {n cc : Nat} {p : Option Addr} (hn : n ≤ 9223372036854775807) (h : ¬ (Vld r c n ∧ r = c)) :
    Ct Try.prog 24 [.agg #[.int .i64 r, .int .i64 c, .slice p n cc]] G U M fun v _ D => D = [] ∧ OutQ 4 v := by
  refine ct_of_st Try.func24 rfl rfl rfl rfl ?_
  repeat (first | refine run_S ?_ | refine w_box (fun _ => ?_) | refine w_al (fun _ => ?_))
  refine sl_call rfl rfl rfl rfl rfl rfl (fun _ => msquare_ct (r := r) (c := c) (p := p) (cc := cc) hn) ?_
  rintro v U' D hU ⟨rfl, rfl, rfl⟩
  repeat (first | refine run_S ?_ | refine w_box (fun _ => ?_) | refine w_al (fun _ => ?_))
  rw [decide_eq_false h]
  repeat (first | refine run_S ?_ | refine w_box (fun _ => ?_) | refine w_al (fun _ => ?_))
  exact sk_ret [] sym rfl (.cons (.cell 0 rfl rfl rfl) (.cons (.tmp rfl) .nil)) uc sb (.inl rfl) ⟨rfl, zeroQV, rfl⟩

theorem mTrace_no {r c : Int} {n cc : Nat} {p : Option Addr} (hn : n ≤ 9223372036854775807) (h : ¬ (Vld r c n ∧ r = c)) :
    Ct Try.prog 25 [.agg #[.int .i64 r, .int .i64 c, .slice p n cc]] G U M fun v _ D => D = [] ∧ OutQ 4 v := by
  refine ct_of_st Try.func25 rfl rfl rfl rfl ?_
  repeat (first | refine run_S ?_ | refine w_box (fun _ => ?_) | refine w_al (fun _ => ?_))
  refine sl_call rfl rfl rfl rfl rfl rfl (fun _ => msquare_ct (r := r) (c := c) (p := p) (cc := cc) hn) ?_
  rintro v U' D hU ⟨rfl, rfl, rfl⟩
  repeat (first | refine run_S ?_ | refine w_box (fun _ => ?_) | refine w_al (fun _ => ?_))
  rw [decide_eq_false h]
  repeat (first | refine run_S ?_ | refine w_box (fun _ => ?_) | refine w_al (fun _ => ?_))
  exact sk_ret [] sym rfl (.cons (.cell 0 rfl rfl rfl) (.cons (.tmp rfl) .nil)) uc sb (.inl rfl) ⟨rfl, zeroQV, rfl⟩

theorem mSignature_no {r c : Int} {n cc : Nat} {p : Option Addr} (hn : n ≤ 9223372036854775807) (h : ¬ (Vld r c n ∧ r = c)) :
    Ct Try.prog 26 [.agg #[.int .i64 r, .int .i64 c, .slice p n cc]] G U M fun v _ D => D = [] ∧ OutT 4 v := by
  refine ct_of_st Try.func26 rfl rfl rfl rfl ?_
  repeat (first | refine run_S ?_ | refine w_box (fun _ => ?_) | refine w_al (fun _ => ?_))
  refine sl_call rfl rfl rfl rfl rfl rfl (fun _ => msquare_ct (r := r) (c := c) (p := p) (cc := cc) hn) ?_
  rintro v U' D hU ⟨rfl, rfl, rfl⟩
  repeat (first | refine run_S ?_ | refine w_box (fun _ => ?_) | refine w_al (fun _ => ?_))
  rw [decide_eq_false h]
  repeat (first | refine run_S ?_ | refine w_box (fun _ => ?_) | refine w_al (fun _ => ?_))
  exact sk_ret [] sym rfl (.cons (.tmp rfl) (.cons (.tmp rfl) (.cons (.tmp rfl) (.cons (.tmp rfl) .nil)))) uc sb (.inl rfl) ⟨rfl, _, _, _, rfl⟩

theorem meach_no {ra ca rb cb : Int} {na nb cca ccb : Nat} {pa pb : Option Addr} {vf : Value} (ha : na ≤ 9223372036854775807) (hb : nb ≤ 9223372036854775807) (h : ¬ (Vld ra ca na ∧ Vld rb cb nb ∧ ra = rb ∧ ca = cb)) :
    Ct Try.prog 33 [.agg #[.int .i64 ra, .int .i64 ca, .slice pa na cca], .agg #[.int .i64 rb, .int .i64 cb, .slice pb nb ccb], vf] G U M fun v _ D => D = [] ∧ OutM 4 v := by
  refine ct_of_st Try.func33 rfl rfl rfl rfl ?_
  repeat (first | refine run_S ?_ | refine w_box (fun _ => ?_) | refine w_al (fun _ => ?_))
  refine sl_call rfl rfl rfl rfl rfl rfl (fun _ => mValid_ct (r := ra) (c := ca) (p := pa) (cc := cca) ha) ?_
  rintro v U' D hU ⟨rfl, rfl, rfl⟩
  repeat (first | refine run_S ?_ | refine w_box (fun _ => ?_) | refine w_al (fun _ => ?_))
  by_cases h1 : Vld ra ca na
  · rw [decide_eq_true h1]
    repeat (first | refine run_S ?_ | refine w_box (fun _ => ?_) | refine w_al (fun _ => ?_))
    refine sl_call rfl rfl rfl rfl rfl rfl (fun _ => mValid_ct (r := rb) (c := cb) (p := pb) (cc := ccb) hb) ?_
    rintro v U' D hU ⟨rfl, rfl, rfl⟩
    repeat (first | refine run_S ?_ | refine w_box (fun _ => ?_) | refine w_al (fun _ => ?_))
    by_cases h2 : Vld rb cb nb
    · rw [decide_eq_true h2]
      repeat (first | refine run_S ?_ | refine w_box (fun _ => ?_) | refine w_al (fun _ => ?_))
      refine sl_gdec rfl rfl (fun h3 => ?_) (fun h3 => ?_)
      · repeat (first | refine run_S ?_ | refine w_box (fun _ => ?_) | refine w_al (fun _ => ?_))
        exact sk_ret [] sym rfl (.cons (.cell 0 rfl rfl rfl) (.cons (.tmp rfl) .nil)) uc sb (.inl rfl) ⟨rfl, _, _, _, _, _, rfl⟩
      repeat (first | refine run_S ?_ | refine w_box (fun _ => ?_) | refine w_al (fun _ => ?_))
      refine st_ne rfl (fun h4 => ?_) (fun h4 => absurd ⟨h1, h2, by omega, h4⟩ h)
      repeat (first | refine run_S ?_ | refine w_box (fun _ => ?_) | refine w_al (fun _ => ?_))
      exact sk_ret [] sym rfl (.cons (.cell 0 rfl rfl rfl) (.cons (.tmp rfl) .nil)) uc sb (.inl rfl) ⟨rfl, _, _, _, _, _, rfl⟩
    · rw [decide_eq_false h2]
      repeat (first | refine run_S ?_ | refine w_box (fun _ => ?_) | refine w_al (fun _ => ?_))
      exact sk_ret [] sym rfl (.cons (.cell 0 rfl rfl rfl) (.cons (.tmp rfl) .nil)) uc sb (.inl rfl) ⟨rfl, _, _, _, _, _, rfl⟩
  · rw [decide_eq_false h1]
    repeat (first | refine run_S ?_ | refine w_box (fun _ => ?_) | refine w_al (fun _ => ?_))
    exact sk_ret [] sym rfl (.cons (.cell 0 rfl rfl rfl) (.cons (.tmp rfl) .nil)) uc sb (.inl rfl) ⟨rfl, _, _, _, _, _, rfl⟩

theorem mMul_no {ra ca rb cb : Int} {na nb cca ccb : Nat} {pa pb : Option Addr} (ha : na ≤ 9223372036854775807) (hb : nb ≤ 9223372036854775807) (h : ¬ (Vld ra ca na ∧ Vld rb cb nb ∧ ca = rb)) :
    Ct Try.prog 9 [.agg #[.int .i64 ra, .int .i64 ca, .slice pa na cca], .agg #[.int .i64 rb, .int .i64 cb, .slice pb nb ccb]] G U M fun v _ D => D = [] ∧ OutM 4 v := by
  refine ct_of_st Try.func9 rfl rfl rfl rfl ?_
  repeat (first | refine run_S ?_ | refine w_box (fun _ => ?_) | refine w_al (fun _ => ?_))
  refine sl_call rfl rfl rfl rfl rfl rfl (fun _ => mValid_ct (r := ra) (c := ca) (p := pa) (cc := cca) ha) ?_
  rintro v U' D hU ⟨rfl, rfl, rfl⟩
  repeat (first | refine run_S ?_ | refine w_box (fun _ => ?_) | refine w_al (fun _ => ?_))
  by_cases h1 : Vld ra ca na
  · rw [decide_eq_true h1]
    repeat (first | refine run_S ?_ | refine w_box (fun _ => ?_) | refine w_al (fun _ => ?_))
    refine sl_call rfl rfl rfl rfl rfl rfl (fun _ => mValid_ct (r := rb) (c := cb) (p := pb) (cc := ccb) hb) ?_
    rintro v U' D hU ⟨rfl, rfl, rfl⟩
    repeat (first | refine run_S ?_ | refine w_box (fun _ => ?_) | refine w_al (fun _ => ?_))
    by_cases h2 : Vld rb cb nb
    · rw [decide_eq_true h2]
      repeat (first | refine run_S ?_ | refine w_box (fun _ => ?_) | refine w_al (fun _ => ?_))
      refine st_ne rfl (fun h4 => ?_) (fun h4 => absurd ⟨h1, h2, h4⟩ h)
      repeat (first | refine run_S ?_ | refine w_box (fun _ => ?_) | refine w_al (fun _ => ?_))
      exact sk_ret [] sym rfl (.cons (.cell 0 rfl rfl rfl) (.cons (.tmp rfl) .nil)) uc sb (.inl rfl) ⟨rfl, _, _, _, _, _, rfl⟩
    · rw [decide_eq_false h2]
      repeat (first | refine run_S ?_ | refine w_box (fun _ => ?_) | refine w_al (fun _ => ?_))
      exact sk_ret [] sym rfl (.cons (.cell 0 rfl rfl rfl) (.cons (.tmp rfl) .nil)) uc sb (.inl rfl) ⟨rfl, _, _, _, _, _, rfl⟩
  · rw [decide_eq_false h1]
    repeat (first | refine run_S ?_ | refine w_box (fun _ => ?_) | refine w_al (fun _ => ?_))
    exact sk_ret [] sym rfl (.cons (.cell 0 rfl rfl rfl) (.cons (.tmp rfl) .nil)) uc sb (.inl rfl) ⟨rfl, _, _, _, _, _, rfl⟩

theorem mAdd_no {ra ca rb cb : Int} {na nb cca ccb : Nat} {pa pb : Option Addr} (ha : na ≤ 9223372036854775807) (hb : nb ≤ 9223372036854775807) (h : ¬ (Vld ra ca na ∧ Vld rb cb nb ∧ ra = rb ∧ ca = cb)) :
    Ct Try.prog 8 [.agg #[.int .i64 ra, .int .i64 ca, .slice pa na cca], .agg #[.int .i64 rb, .int .i64 cb, .slice pb nb ccb]] G U M fun v _ D => D = [] ∧ OutM 4 v := by
  refine ct_of_st Try.func8 rfl rfl rfl rfl ?_
  repeat (first | refine run_S ?_ | refine w_box (fun _ => ?_) | refine w_al (fun _ => ?_))
  refine sl_call rfl rfl rfl rfl rfl rfl (fun _ => meach_no ha hb h) ?_
  rintro v1 U1 D1 hU1 ⟨rfl, r, c, p, n, cc, rfl⟩
  try rw [List.nil_append]
  repeat (first | refine run_S ?_ | refine w_box (fun _ => ?_) | refine w_al (fun _ => ?_))
  exact sk_ret [] sym rfl (.cons (.cell 0 rfl rfl rfl) (.cons (.tmp rfl) .nil)) uc sb (.inl rfl) ⟨rfl, _, _, _, _, _, rfl⟩

theorem mSub_no {ra ca rb cb : Int} {na nb cca ccb : Nat} {pa pb : Option Addr} (ha : na ≤ 9223372036854775807) (hb : nb ≤ 9223372036854775807) (h : ¬ (Vld ra ca na ∧ Vld rb cb nb ∧ ra = rb ∧ ca = cb)) :
    Ct Try.prog 20 [.agg #[.int .i64 ra, .int .i64 ca, .slice pa na cca], .agg #[.int .i64 rb, .int .i64 cb, .slice pb nb ccb]] G U M fun v _ D => D = [] ∧ OutM 4 v := by
  refine ct_of_st Try.func20 rfl rfl rfl rfl ?_
  repeat (first | refine run_S ?_ | refine w_box (fun _ => ?_) | refine w_al (fun _ => ?_))
  refine sl_call rfl rfl rfl rfl rfl rfl (fun _ => meach_no ha hb h) ?_
  rintro v1 U1 D1 hU1 ⟨rfl, r, c, p, n, cc, rfl⟩
  try rw [List.nil_append]
  repeat (first | refine run_S ?_ | refine w_box (fun _ => ?_) | refine w_al (fun _ => ?_))
  exact sk_ret [] sym rfl (.cons (.cell 0 rfl rfl rfl) (.cons (.tmp rfl) .nil)) uc sb (.inl rfl) ⟨rfl, _, _, _, _, _, rfl⟩

theorem mScale_no {ra ca : Int} {na cca : Nat} {pa : Option Addr} {xs : QV} (ha : na ≤ 9223372036854775807) (h : ¬ Vld ra ca na) :
    Ct Try.prog 21 [.agg #[.int .i64 ra, .int .i64 ca, .slice pa na cca], xs.v] G U M fun v _ D => D = [] ∧ OutM 4 v := by
  refine ct_of_st Try.func21 rfl rfl rfl rfl ?_
  repeat (first | refine run_S ?_ | refine w_box (fun _ => ?_) | refine w_al (fun _ => ?_))
  refine sl_y (yl_makeFunc rfl rfl) rfl rfl rfl rfl ?_
  repeat (first | refine run_S ?_ | refine w_box (fun _ => ?_) | refine w_al (fun _ => ?_))
  refine sl_call rfl rfl rfl rfl rfl rfl (fun _ => meach_no ha ha (fun h2 => h h2.1)) ?_
  rintro v1 U1 D1 hU1 ⟨rfl, r, c, p, n, cc, rfl⟩
  try rw [List.nil_append]
  repeat (first | refine run_S ?_ | refine w_box (fun _ => ?_) | refine w_al (fun _ => ?_))
  exact sk_ret [] sym rfl (.cons (.cell 0 rfl rfl rfl) (.cons (.tmp rfl) .nil)) uc sb (.inl rfl) ⟨rfl, _, _, _, _, _, rfl⟩

theorem mRank_no {r c : Int} {n cc : Nat} {p : Option Addr} (hn : n ≤ 9223372036854775807) (h : ¬ (Vld r c n)) :
    Ct Try.prog 22 [.agg #[.int .i64 r, .int .i64 c, .slice p n cc]] G U M fun v _ D => D = [] ∧ OutI 4 v := by
  refine ct_of_st Try.func22 rfl rfl rfl rfl ?_
  repeat (first | refine run_S ?_ | refine w_box (fun _ => ?_) | refine w_al (fun _ => ?_))
  refine sl_call rfl rfl rfl rfl rfl rfl (fun _ => mEchelon_no hn h) ?_
  rintro v1 U1 D1 hU1 ⟨rfl, r1, c1, p1, n1, cc1, p2, n2, c2, rfl⟩
  try rw [List.nil_append]
  repeat (first | refine run_S ?_ | refine w_box (fun _ => ?_) | refine w_al (fun _ => ?_))
  exact sk_ret [] sym rfl (.cons (.tmp rfl) (.cons (.tmp rfl) .nil)) uc sb (.inl rfl) ⟨rfl, _, rfl⟩

theorem mApply_no {r c : Int} {n cc nx cx : Nat} {p px : Option Addr} (hn : n ≤ 9223372036854775807) (h : ¬ (Vld r c n ∧ (nx : Int) = r)) :
    Ct Try.prog 27 [.slice px nx cx, .agg #[.int .i64 r, .int .i64 c, .slice p n cc]] G U M fun v _ D => D = [] ∧ OutS 4 v := by
  refine ct_of_st Try.func27 rfl rfl rfl rfl ?_
  repeat (first | refine run_S ?_ | refine w_box (fun _ => ?_) | refine w_al (fun _ => ?_))
  refine sl_call rfl rfl rfl rfl rfl rfl (fun _ => mValid_ct (r := r) (c := c) (p := p) (cc := cc) hn) ?_
  rintro v U' D hU ⟨rfl, rfl, rfl⟩
  repeat (first | refine run_S ?_ | refine w_box (fun _ => ?_) | refine w_al (fun _ => ?_))
  by_cases h1 : Vld r c n
  · rw [decide_eq_true h1]
    repeat (first | refine run_S ?_ | refine w_box (fun _ => ?_) | refine w_al (fun _ => ?_))
    refine st_ne rfl (fun h4 => ?_) (fun h4 => absurd ⟨h1, h4⟩ h)
    repeat (first | refine run_S ?_ | refine w_box (fun _ => ?_) | refine w_al (fun _ => ?_))
    exact sk_ret [] sym rfl (.cons (.tmp rfl) (.cons (.tmp rfl) .nil)) uc sb (.inl rfl) ⟨rfl, _, _, _, rfl⟩
  · rw [decide_eq_false h1]
    repeat (first | refine run_S ?_ | refine w_box (fun _ => ?_) | refine w_al (fun _ => ?_))
    exact sk_ret [] sym rfl (.cons (.tmp rfl) (.cons (.tmp rfl) .nil)) uc sb (.inl rfl) ⟨rfl, _, _, _, rfl⟩

theorem mSolve_no {r c : Int} {n cc nx cx : Nat} {p px : Option Addr} (hn : n ≤ 9223372036854775807) (h : ¬ (Vld r c n ∧ (nx : Int) = c)) :
    Ct Try.prog 28 [.agg #[.int .i64 r, .int .i64 c, .slice p n cc], .slice px nx cx] G U M fun v _ D => D = [] ∧ OutS 4 v := by
  refine ct_of_st Try.func28 rfl rfl rfl rfl ?_
  repeat (first | refine run_S ?_ | refine w_box (fun _ => ?_) | refine w_al (fun _ => ?_))
  refine sl_call rfl rfl rfl rfl rfl rfl (fun _ => mValid_ct (r := r) (c := c) (p := p) (cc := cc) hn) ?_
  rintro v U' D hU ⟨rfl, rfl, rfl⟩
  repeat (first | refine run_S ?_ | refine w_box (fun _ => ?_) | refine w_al (fun _ => ?_))
  by_cases h1 : Vld r c n
  · rw [decide_eq_true h1]
    repeat (first | refine run_S ?_ | refine w_box (fun _ => ?_) | refine w_al (fun _ => ?_))
    refine st_ne rfl (fun h4 => ?_) (fun h4 => absurd ⟨h1, h4⟩ h)
    repeat (first | refine run_S ?_ | refine w_box (fun _ => ?_) | refine w_al (fun _ => ?_))
    exact sk_ret [] sym rfl (.cons (.tmp rfl) (.cons (.tmp rfl) .nil)) uc sb (.inl rfl) ⟨rfl, _, _, _, rfl⟩
  · rw [decide_eq_false h1]
    repeat (first | refine run_S ?_ | refine w_box (fun _ => ?_) | refine w_al (fun _ => ?_))
    exact sk_ret [] sym rfl (.cons (.tmp rfl) (.cons (.tmp rfl) .nil)) uc sb (.inl rfl) ⟨rfl, _, _, _, rfl⟩

end Go.Proofs.Ytcfgogamamdipaa

/- The functions of matrix: the error that they answer. -/
namespace Go.Proofs.Ytcfgogamamdipaa
open Go.Hp
variable {G : World} {U U' : UH} {M M' : MH}

theorem OutE.of {r n : Nat} {vR vp : Value} {R : Nat → Nat → Rat} {p : Nat → Nat} {U : UH} (h : Vm Vq r n U vR R) (h2 : Ls Vi 1 r U [] vp p) : OutE 0 (.tuple #[vR, vp, .int .i64 0]) := by
  obtain ⟨_, rfl, p, c', vs, rfl, -⟩ := h
  obtain ⟨p2, c2, vs2, rfl, -⟩ := h2
  exact ⟨_, _, _, _, _, _, _, _, rfl⟩
theorem OutM.vm {r n : Nat} {e : Int} {vR : Value} {ok : UH → Value → Rat → Prop} {R : Nat → Nat → Rat} {U : UH} (h : Vm ok r n U vR R) : OutM e (.tuple #[vR, .int .i64 e]) := by
  obtain ⟨_, rfl, p, c', vs, rfl, -⟩ := h; exact ⟨_, _, _, _, _, rfl⟩
theorem OutM.vmo {r n : Nat} {e : Int} {vR : Value} {R : Nat → Nat → Rat} {U : UH} {D : MH} (h : Vmo r n U D vR R) : OutM e (.tuple #[vR, .int .i64 e]) := by
  obtain ⟨_, rfl, p, c', vs, rfl, -⟩ := h; exact ⟨_, _, _, _, _, rfl⟩
theorem psz_two {n : Nat} (hn : n ≤ 5) : ∀ k, k ≤ 2 → psz n 1 k ≤ 16777216 := by
  have : ∀ n, n ≤ 5 → ∀ k, k ≤ 2 → psz n 1 k ≤ 16777216 := by decide
  exact this n hn

theorem mRow_neg {r c : Int} {n cc : Nat} {p : Option Addr} (hn : n ≤ 9223372036854775807) (h0 : 0 ≤ r) (h1 : r ≤ 1024) (h : Vld r c n) :
    Ct Try.prog 23 [.agg #[.int .i64 r, .int .i64 c, .slice p n cc], .int .i64 (-1)] G U M fun v _ D => D = [] ∧ OutS 2 v := by
  refine ct_of_st Try.func23 rfl rfl rfl rfl ?_
  repeat (first | refine run_S ?_ | refine w_box (fun _ => ?_) | refine w_al (fun _ => ?_))
  refine sl_call rfl rfl rfl rfl rfl rfl (fun _ => mValid_ct (r := r) (c := c) (p := p) (cc := cc) hn) ?_
  rintro v U' D hU ⟨rfl, rfl, rfl⟩
  repeat (first | refine run_S ?_ | refine w_box (fun _ => ?_) | refine w_al (fun _ => ?_))
  rw [decide_eq_true h]
  repeat (first | refine run_S ?_ | refine w_box (fun _ => ?_) | refine w_al (fun _ => ?_))
  refine sl_gdec rfl rfl (fun _ => ?_) (fun h2 => absurd (by decide) h2)
  repeat (first | refine run_S ?_ | refine w_box (fun _ => ?_) | refine w_al (fun _ => ?_))
  exact sk_ret [] sym rfl (.cons (.tmp rfl) (.cons (.tmp rfl) .nil)) uc sb (.inl rfl) ⟨rfl, _, _, _, rfl⟩

theorem mPower_neg {r c : Int} {n cc : Nat} {p : Option Addr} (hn : n ≤ 9223372036854775807) (h : Vld r c n ∧ r = c) :
    Ct Try.prog 14 [.agg #[.int .i64 r, .int .i64 c, .slice p n cc], .int .i64 (-1)] G U M fun v _ D => D = [] ∧ OutM 2 v := by
  refine ct_of_st Try.func14 rfl rfl rfl rfl ?_
  repeat (first | refine run_S ?_ | refine w_box (fun _ => ?_) | refine w_al (fun _ => ?_))
  refine sl_call rfl rfl rfl rfl rfl rfl (fun _ => msquare_ct (r := r) (c := c) (p := p) (cc := cc) hn) ?_
  rintro v U' D hU ⟨rfl, rfl, rfl⟩
  repeat (first | refine run_S ?_ | refine w_box (fun _ => ?_) | refine w_al (fun _ => ?_))
  rw [decide_eq_true h]
  repeat (first | refine run_S ?_ | refine w_box (fun _ => ?_) | refine w_al (fun _ => ?_))
  refine sl_gdec rfl rfl (fun _ => ?_) (fun h2 => absurd (by decide) h2)
  repeat (first | refine run_S ?_ | refine w_box (fun _ => ?_) | refine w_al (fun _ => ?_))
  exact sk_ret [] sym rfl (.cons (.cell 0 rfl rfl rfl) (.cons (.tmp rfl) .nil)) uc sb (.inl rfl) ⟨rfl, _, _, _, _, _, rfl⟩

theorem eTranspose {v : Value} {r c : Int} {n : Nat} {f : Nat → Rat} (h : Lit 5 U v r c n f) : Ct Try.prog 10 [v] G U M fun v _ D => D = [] ∧ OutM (cod (Vld r c n)) v := by
  by_cases hV : Vld r c n
  · obtain ⟨R, C, rfl, rfl, hR, hC, hm⟩ := h.vm hV
    skip
    have g1 := gro_small (k := 1) (n := R) (by omega) (by decide)
    obtain ⟨g2, g3⟩ := gro_one (n := R) (by omega)
    have g4 := gro_mid (k := La.gro 1 R) (n := R) (by omega) g3
    have g5 := dbl_small (W := La.gro 1 R) (k := 1) (n := R) (by omega) g3 (by decide)
    have g6 := dbl_mid (W := La.gro (La.gro 1 R) R) (k := La.dbl (La.gro 1 R) 1 R) (n := R) (by omega) (by omega) g5
    rw [cod_y hV]
    exact (mTranspose_co hm (by decide) (by omega) (by omega)).forget.mono fun _ _ _ _ ⟨h1, _, vC, h2, h3, _⟩ => ⟨h1, h2 ▸ OutM.vmo h3⟩
  · obtain ⟨hn, -, _, rfl, p, cc, vs, rfl, -⟩ := h
    rw [cod_n hV]
    exact mTranspose_no (by omega) hV

theorem eEchelon {v : Value} {r c : Int} {n : Nat} {f : Nat → Rat} (h : Lit 5 U v r c n f) : Ct Try.prog 11 [v] G U M fun v _ D => D = [] ∧ OutE (cod (Vld r c n)) v := by
  by_cases hV : Vld r c n
  · obtain ⟨R, C, rfl, rfl, hR, hC, hm⟩ := h.vm hV
    skip
    have g1 := gro_small (k := 1) (n := R) (by omega) (by decide)
    obtain ⟨g2, g3⟩ := gro_one (n := R) (by omega)
    have g4 := gro_mid (k := La.gro 1 R) (n := R) (by omega) g3
    have g5 := dbl_small (W := La.gro 1 R) (k := 1) (n := R) (by omega) g3 (by decide)
    have g6 := dbl_mid (W := La.gro (La.gro 1 R) R) (k := La.dbl (La.gro 1 R) 1 R) (n := R) (by omega) (by omega) g5
    rw [cod_y hV]
    exact (mEchelon_ct hm (Nat.le_refl 1) (by omega) (by omega) (by omega) (by omega)).mono fun _ _ _ _ ⟨r', R', p', vR, vp, h2, h3, h4, h5, _⟩ => ⟨h5, h2 ▸ OutE.of h3 h4⟩
  · obtain ⟨hn, -, _, rfl, p, cc, vs, rfl, -⟩ := h
    rw [cod_n hV]
    exact mEchelon_no (by omega) hV

theorem eRank {v : Value} {r c : Int} {n : Nat} {f : Nat → Rat} (h : Lit 5 U v r c n f) : Ct Try.prog 22 [v] G U M fun v _ D => D = [] ∧ OutI (cod (Vld r c n)) v := by
  by_cases hV : Vld r c n
  · obtain ⟨R, C, rfl, rfl, hR, hC, hm⟩ := h.vm hV
    skip
    have g1 := gro_small (k := 1) (n := R) (by omega) (by decide)
    obtain ⟨g2, g3⟩ := gro_one (n := R) (by omega)
    have g4 := gro_mid (k := La.gro 1 R) (n := R) (by omega) g3
    have g5 := dbl_small (W := La.gro 1 R) (k := 1) (n := R) (by omega) g3 (by decide)
    have g6 := dbl_mid (W := La.gro (La.gro 1 R) R) (k := La.dbl (La.gro 1 R) 1 R) (n := R) (by omega) (by omega) g5
    rw [cod_y hV]
    exact (mRank_ct hm (Nat.le_refl 1) (by omega) (by omega) (by omega) (by omega)).mono fun _ _ _ _ ⟨r', R', p', h2, _, _, h5⟩ => ⟨h5, _, h2⟩
  · obtain ⟨hn, -, _, rfl, p, cc, vs, rfl, -⟩ := h
    rw [cod_n hV]
    exact mRank_no (by omega) hV

theorem eKernel {v : Value} {r c : Int} {n : Nat} {f : Nat → Rat} (h : Lit 5 U v r c n f) : Ct Try.prog 12 [v] G U M fun v _ D => D = [] ∧ OutM (cod (Vld r c n)) v := by
  by_cases hV : Vld r c n
  · obtain ⟨R, C, rfl, rfl, hR, hC, hm⟩ := h.vm hV
    skip
    have g1 := gro_small (k := 1) (n := R) (by omega) (by decide)
    obtain ⟨g2, g3⟩ := gro_one (n := R) (by omega)
    have g4 := gro_mid (k := La.gro 1 R) (n := R) (by omega) g3
    have g5 := dbl_small (W := La.gro 1 R) (k := 1) (n := R) (by omega) g3 (by decide)
    have g6 := dbl_mid (W := La.gro (La.gro 1 R) R) (k := La.dbl (La.gro 1 R) 1 R) (n := R) (by omega) (by omega) g5
    rw [cod_y hV]
    exact (mKernel_ct hm (Nat.le_refl 1) (by omega) (by omega) (by omega) (by omega) (by omega)).mono fun _ _ _ _ ⟨_, _, _, vK, h2, h3, h5, _⟩ => ⟨h5, h2 ▸ OutM.vm h3⟩
  · obtain ⟨hn, -, _, rfl, p, cc, vs, rfl, -⟩ := h
    rw [cod_n hV]
    exact mKernel_no (by omega) hV

theorem eRow {v : Value} {r c : Int} {n : Nat} {f : Nat → Rat} (h : Lit 5 U v r c n f) : Ct Try.prog 23 [v, .int .i64 (-1)] G U M fun v _ D => D = [] ∧ OutS (if Vld r c n then 2 else 4) v := by
  obtain ⟨hn, -, _, rfl, p, cc, vs, rfl, -⟩ := h
  by_cases hV : Vld r c n
  · rw [if_pos hV]; exact mRow_neg (by omega) hV.1 hV.2.1 hV
  · rw [if_neg hV]; exact mRow_no (by omega) hV

theorem ePower {v : Value} {r c : Int} {n : Nat} {f : Nat → Rat} (h : Lit 5 U v r c n f) : Ct Try.prog 14 [v, .int .i64 2] G U M fun v _ D => D = [] ∧ OutM (cod (Vld r c n ∧ r = c)) v := by
  by_cases hV : Vld r c n ∧ r = c
  · obtain ⟨R, C, rfl, rfl, hR, hC, hm⟩ := h.vm hV.1
    obtain rfl : R = C := by omega
    have g1 := gro_small (k := 1) (n := R) (by omega) (by decide)
    obtain ⟨g2, g3⟩ := gro_one (n := R) (by omega)
    have g4 := gro_mid (k := La.gro 1 R) (n := R) (by omega) g3
    have g5 := dbl_small (W := La.gro 1 R) (k := 1) (n := R) (by omega) g3 (by decide)
    have g6 := dbl_mid (W := La.gro (La.gro 1 R) R) (k := La.dbl (La.gro 1 R) 1 R) (n := R) (by omega) (by omega) g5
    rw [cod_y hV]
    have hS : 1 + R * (2 * 16777216 + 2) + 16777216 ≤ 10000000000 := by
      have := Nat.mul_le_mul_right (2 * 16777216 + 2) hR
      omega
    exact (mPower_ct (S := 16777216) (N := 2) hm (by decide) (by decide) hS (fun e he i j hi hj => (psz_ok (fun i j hi hj => hm.sz (Nat.le_refl 1) hi hj) e i j hi hj).mono (psz_two hR e he)) (by decide) (by omega)).mono fun _ _ _ _ ⟨_, h2, h3, h4⟩ => ⟨h4, h2 ▸ OutM.vm h3⟩
  · obtain ⟨hn, -, _, rfl, p, cc, vs, rfl, -⟩ := h
    rw [cod_n hV]
    exact mPower_no (by omega) hV

theorem eInverse {v : Value} {r c : Int} {n : Nat} {f : Nat → Rat} (h : Lit 5 U v r c n f) : Ct Try.prog 13 [v] G U M fun v _ D => D = [] ∧ ∃ e : Int, OutM e v ∧ (e = 4 ↔ ¬ (Vld r c n ∧ r = c)) := by
  by_cases hV : Vld r c n ∧ r = c
  · obtain ⟨R, C, rfl, rfl, hR, hC, hm⟩ := h.vm hV.1
    obtain rfl : R = C := by omega
    have g1 := gro_small (k := 1) (n := R) (by omega) (by decide)
    obtain ⟨g2, g3⟩ := gro_one (n := R) (by omega)
    have g4 := gro_mid (k := La.gro 1 R) (n := R) (by omega) g3
    have g5 := dbl_small (W := La.gro 1 R) (k := 1) (n := R) (by omega) g3 (by decide)
    have g6 := dbl_mid (W := La.gro (La.gro 1 R) R) (k := La.dbl (La.gro 1 R) 1 R) (n := R) (by omega) (by omega) g5
    refine (mInverse_ct hm (Nat.le_refl 1) (by omega) (by omega) (by omega)).mono fun _ _ _ _ ⟨r', R', p', vX, e, h2, h3, h4, h5, h6⟩ => ⟨h6, e, ?_⟩
    have h7 := h3.le
    rcases Nat.lt_or_eq_of_le h7 with h8 | h8
    · obtain ⟨rfl, rfl⟩ := h4 h8
      exact ⟨h2 ▸ ⟨_, _, _, _, _, rfl⟩, ⟨fun h => absurd h (by decide), fun h => absurd hV h⟩⟩
    · obtain ⟨rfl, X, h9, -⟩ := h5 h8
      exact ⟨h2 ▸ OutM.vm h9, ⟨fun h => absurd h (by decide), fun h => absurd hV h⟩⟩
  · obtain ⟨hn, -, _, rfl, p, cc, vs, rfl, -⟩ := h
    exact (mInverse_no (by omega) hV).mono fun _ _ _ _ ⟨h1, h2⟩ => ⟨h1, 4, h2, fun _ => hV, fun _ => rfl⟩

theorem eDet {v : Value} {r c : Int} {n : Nat} {f : Nat → Rat} (h : Lit 5 U v r c n f) : Ct Try.prog 24 [v] G U M fun v _ D => D = [] ∧ OutQ (cod (Vld r c n ∧ r = c)) v := by
  by_cases hV : Vld r c n ∧ r = c
  · obtain ⟨R, C, rfl, rfl, hR, hC, hm⟩ := h.vm hV.1
    obtain rfl : R = C := by omega
    have g1 := gro_small (k := 1) (n := R) (by omega) (by decide)
    obtain ⟨g2, g3⟩ := gro_one (n := R) (by omega)
    have g4 := gro_mid (k := La.gro 1 R) (n := R) (by omega) g3
    have g5 := dbl_small (W := La.gro 1 R) (k := 1) (n := R) (by omega) g3 (by decide)
    have g6 := dbl_mid (W := La.gro (La.gro 1 R) R) (k := La.dbl (La.gro 1 R) 1 R) (n := R) (by omega) (by omega) g5
    rw [cod_y hV]
    exact (mDet_ct hm (Nat.le_refl 1) (by omega) (by omega) (by omega)).mono fun _ _ _ _ ⟨x, h2, _, h4, _⟩ => ⟨h4, x, h2⟩
  · obtain ⟨hn, -, _, rfl, p, cc, vs, rfl, -⟩ := h
    rw [cod_n hV]
    exact mDet_no (by omega) hV

theorem eTrace {v : Value} {r c : Int} {n : Nat} {f : Nat → Rat} (h : Lit 5 U v r c n f) : Ct Try.prog 25 [v] G U M fun v _ D => D = [] ∧ OutQ (cod (Vld r c n ∧ r = c)) v := by
  by_cases hV : Vld r c n ∧ r = c
  · obtain ⟨R, C, rfl, rfl, hR, hC, hm⟩ := h.vm hV.1
    obtain rfl : R = C := by omega
    have g1 := gro_small (k := 1) (n := R) (by omega) (by decide)
    obtain ⟨g2, g3⟩ := gro_one (n := R) (by omega)
    have g4 := gro_mid (k := La.gro 1 R) (n := R) (by omega) g3
    have g5 := dbl_small (W := La.gro 1 R) (k := 1) (n := R) (by omega) g3 (by decide)
    have g6 := dbl_mid (W := La.gro (La.gro 1 R) R) (k := La.dbl (La.gro 1 R) 1 R) (n := R) (by omega) (by omega) g5
    rw [cod_y hV]
    exact (mTrace_ct hm (Nat.le_refl 1) (by omega) (by omega)).mono fun _ _ _ _ ⟨x, h2, _, h4⟩ => ⟨h4, x, h2⟩
  · obtain ⟨hn, -, _, rfl, p, cc, vs, rfl, -⟩ := h
    rw [cod_n hV]
    exact mTrace_no (by omega) hV

theorem eSignature {v : Value} {r c : Int} {n : Nat} {f : Nat → Rat} (h : Lit 5 U v r c n f) : Ct Try.prog 26 [v] G U M fun v _ D => D = [] ∧ ∃ e : Int, OutT e v ∧ (e = 4 ↔ ¬ (Vld r c n ∧ r = c)) := by
  by_cases hV : Vld r c n ∧ r = c
  · obtain ⟨R, C, rfl, rfl, hR, hC, hm⟩ := h.vm hV.1
    obtain rfl : R = C := by omega
    have g1 := gro_small (k := 1) (n := R) (by omega) (by decide)
    obtain ⟨g2, g3⟩ := gro_one (n := R) (by omega)
    have g4 := gro_mid (k := La.gro 1 R) (n := R) (by omega) g3
    have g5 := dbl_small (W := La.gro 1 R) (k := 1) (n := R) (by omega) g3 (by decide)
    have g6 := dbl_mid (W := La.gro (La.gro 1 R) R) (k := La.dbl (La.gro 1 R) 1 R) (n := R) (by omega) (by omega) g5
    have s1 : ∀ k, k < R → 300 * sgb 1 k ≤ 60000000000 := fun k hk => Nat.le_trans (Nat.mul_le_mul_left 300 (sgb_le (show k ≤ 4 by omega))) (by decide)
    refine (mSignature_ct hm (Nat.le_refl 1) s1 (by decide) (by omega)).mono fun _ _ _ _ ⟨h1, h2, h3⟩ => ⟨h1, ?_⟩
    by_cases hS : ∀ i j, i < R → j < R → f (i * R + j) = f (j * R + i)
    · obtain ⟨_, _, _, _, _, _, _, _, rfl⟩ := h2 hS
      exact ⟨0, ⟨_, _, _, rfl⟩, fun h => absurd h (by decide), fun h => absurd hV h⟩
    · obtain rfl := h3 hS
      exact ⟨3, ⟨_, _, _, rfl⟩, fun h => absurd h (by decide), fun h => absurd hV h⟩
  · obtain ⟨hn, -, _, rfl, p, cc, vs, rfl, -⟩ := h
    exact (mSignature_no (by omega) hV).mono fun _ _ _ _ ⟨h1, h2⟩ => ⟨h1, 4, h2, fun _ => hV, fun _ => rfl⟩

theorem ePowerN {v : Value} {r c : Int} {n : Nat} {f : Nat → Rat} (h : Lit 5 U v r c n f) : Ct Try.prog 14 [v, .int .i64 (-1)] G U M fun v _ D => D = [] ∧ OutM (if Vld r c n ∧ r = c then 2 else 4) v := by
  obtain ⟨hn, -, _, rfl, p, cc, vs, rfl, -⟩ := h
  by_cases hV : Vld r c n ∧ r = c
  · rw [if_pos hV]; exact mPower_neg (by omega) hV
  · rw [if_neg hV]; exact mPower_no (by omega) hV

theorem eAdd {va vb : Value} {ra ca rb cb : Int} {na nb : Nat} {fa fb : Nat → Rat} (ha : Lit 5 U va ra ca na fa) (hb : Lit 5 U vb rb cb nb fb) : Ct Try.prog 8 [va, vb] G U M fun v _ D => D = [] ∧ OutM (cod (Vld ra ca na ∧ Vld rb cb nb ∧ ra = rb ∧ ca = cb)) v := by
  by_cases hV : Vld ra ca na ∧ Vld rb cb nb ∧ ra = rb ∧ ca = cb
  · rw [cod_y hV]
    obtain ⟨R, C, rfl, rfl, hR, hC, hm⟩ := ha.vm hV.1
    obtain ⟨R', C', rfl, rfl, hR', hC', hm'⟩ := hb.vm hV.2.1
    obtain rfl : R = R' := by omega
    obtain rfl : C = C' := by omega
    exact (mAdd_co hm hm' (by decide) (by omega) (by omega)).forget.mono fun _ _ _ _ ⟨h1, _, vC, h2, h3, _⟩ => ⟨h1, h2 ▸ OutM.vmo h3⟩
  · rw [cod_n hV]
    obtain ⟨hn, -, _, rfl, p, cc, vs, rfl, -⟩ := ha
    obtain ⟨hn', -, _, rfl, p', cc', vs', rfl, -⟩ := hb
    exact mAdd_no (by omega) (by omega) hV

theorem eSub {va vb : Value} {ra ca rb cb : Int} {na nb : Nat} {fa fb : Nat → Rat} (ha : Lit 5 U va ra ca na fa) (hb : Lit 5 U vb rb cb nb fb) : Ct Try.prog 20 [va, vb] G U M fun v _ D => D = [] ∧ OutM (cod (Vld ra ca na ∧ Vld rb cb nb ∧ ra = rb ∧ ca = cb)) v := by
  by_cases hV : Vld ra ca na ∧ Vld rb cb nb ∧ ra = rb ∧ ca = cb
  · rw [cod_y hV]
    obtain ⟨R, C, rfl, rfl, hR, hC, hm⟩ := ha.vm hV.1
    obtain ⟨R', C', rfl, rfl, hR', hC', hm'⟩ := hb.vm hV.2.1
    obtain rfl : R = R' := by omega
    obtain rfl : C = C' := by omega
    exact (mSub_co hm hm' (by decide) (by omega) (by omega)).forget.mono fun _ _ _ _ ⟨h1, _, vC, h2, h3, _⟩ => ⟨h1, h2 ▸ OutM.vmo h3⟩
  · rw [cod_n hV]
    obtain ⟨hn, -, _, rfl, p, cc, vs, rfl, -⟩ := ha
    obtain ⟨hn', -, _, rfl, p', cc', vs', rfl, -⟩ := hb
    exact mSub_no (by omega) (by omega) hV

theorem eMul {va vb : Value} {ra ca rb cb : Int} {na nb : Nat} {fa fb : Nat → Rat} (ha : Lit 5 U va ra ca na fa) (hb : Lit 5 U vb rb cb nb fb) : Ct Try.prog 9 [va, vb] G U M fun v _ D => D = [] ∧ OutM (cod (Vld ra ca na ∧ Vld rb cb nb ∧ ca = rb)) v := by
  by_cases hV : Vld ra ca na ∧ Vld rb cb nb ∧ ca = rb
  · rw [cod_y hV]
    obtain ⟨R, C, rfl, rfl, hR, hC, hm⟩ := ha.vm hV.1
    obtain ⟨R', C', rfl, rfl, hR', hC', hm'⟩ := hb.vm hV.2.1
    obtain rfl : C = R' := by omega
    exact (mMul_ct hm hm' (Nat.le_refl 1) (by omega) (by omega) (by omega) (by omega)).mono fun _ _ _ _ ⟨vC, h2, h3, h4⟩ => ⟨h4, h2 ▸ OutM.vm h3⟩
  · rw [cod_n hV]
    obtain ⟨hn, -, _, rfl, p, cc, vs, rfl, -⟩ := ha
    obtain ⟨hn', -, _, rfl, p', cc', vs', rfl, -⟩ := hb
    exact mMul_no (by omega) (by omega) hV

theorem eScale {v : Value} {r c : Int} {n : Nat} {f : Nat → Rat} {xs : QV} {q : Rat} (h : Lit 5 U v r c n f) (hx : xs.rep U [] q) (hl : xs.le 1) : Ct Try.prog 21 [v, xs.v] G U M fun v _ D => D = [] ∧ OutM (cod (Vld r c n)) v := by
  by_cases hV : Vld r c n
  · obtain ⟨R, C, rfl, rfl, hR, hC, hm⟩ := h.vm hV
    rw [cod_y hV]
    exact (mScale_co hm hx hl (by decide) (by omega) (by omega)).forget.mono fun _ _ _ _ ⟨h1, _, vC, h2, h3, _⟩ => ⟨h1, h2 ▸ OutM.vmo h3⟩
  · obtain ⟨hn, -, _, rfl, p, cc, vs, rfl, -⟩ := h
    rw [cod_n hV]
    exact mScale_no (by omega) hV

theorem eApply {v : Value} {r c : Int} {n nx cx : Nat} {px : Option Addr} {xs : List Value} {f g : Nat → Rat} (h : Lit 5 U v r c n f) (hx : RowAt U [] 4 px nx xs) (hxc : nx ≤ cx) (ex : El (Wq 1) U xs g) : Ct Try.prog 27 [.slice px nx cx, v] G U M fun v _ D => D = [] ∧ OutS (cod (Vld r c n ∧ (nx : Int) = r)) v := by
  by_cases hV : Vld r c n ∧ (nx : Int) = r
  · rw [cod_y hV]
    obtain ⟨R, C, rfl, rfl, hR, hC, hm⟩ := h.vm hV.1
    obtain rfl : nx = R := by omega
    exact (mApply_ct ⟨px, cx, xs, rfl, hxc, hx, ex⟩ hm (Nat.le_refl 1) (by omega) (by omega) (by omega)).mono fun _ _ _ _ ⟨vy, h2, h3, h4⟩ => ⟨h4, h2 ▸ OutS.of h3⟩
  · obtain ⟨hn, -, _, rfl, p, cc, vs, rfl, -⟩ := h
    rw [cod_n hV]
    exact mApply_no (by omega) hV

theorem eSolve {v : Value} {r c : Int} {n nx cx : Nat} {px : Option Addr} {xs : List Value} {f g : Nat → Rat} (h : Lit 5 U v r c n f) (hx : RowAt U [] 4 px nx xs) (hxc : nx ≤ cx) (ex : El (Wq 1) U xs g) : Ct Try.prog 28 [v, .slice px nx cx] G U M fun v _ D => D = [] ∧ ∃ e : Int, OutS e v ∧ (e = 4 ↔ ¬ (Vld r c n ∧ (nx : Int) = c)) := by
  by_cases hV : Vld r c n ∧ (nx : Int) = c
  · obtain ⟨R, C, rfl, rfl, hR, hC, hm⟩ := h.vm hV.1
    obtain rfl : nx = C := by omega
    have g1 := gro_small (k := 1) (n := R) (by omega) (by decide)
    obtain ⟨g2, g3⟩ := gro_one (n := R) (by omega)
    have g4 := gro_mid (k := La.gro 1 R) (n := R) (by omega) g3
    have g5 := dbl_small (W := La.gro 1 R) (k := 1) (n := R) (by omega) g3 (by decide)
    have g6 := dbl_mid (W := La.gro (La.gro 1 R) R) (k := La.dbl (La.gro 1 R) 1 R) (n := R) (by omega) (by omega) g5
    refine (mSolve_ct hm ⟨px, cx, xs, rfl, hxc, hx, ex⟩ (Nat.le_refl 1) (Nat.le_refl 1) (by decide) (by omega) (by omega) (by omega) (by omega) (by omega) (by omega) (by omega)).mono fun _ _ _ _ ⟨h1, h2, h3⟩ => ⟨h3, ?_⟩
    by_cases hS : ∃ y, La.Sol R nx (fun i j => f (i * nx + j)) g y
    · obtain ⟨X, vx, rfl, h5, -⟩ := h2 hS
      exact ⟨0, OutS.of h5, fun h => absurd h (by decide), fun h => absurd hV h⟩
    · obtain rfl := h1 fun y hy => hS ⟨y, hy⟩
      exact ⟨11, ⟨_, _, _, rfl⟩, fun h => absurd h (by decide), fun h => absurd hV h⟩
  · obtain ⟨hn, -, _, rfl, p, cc, vs, rfl, -⟩ := h
    exact (mSolve_no (by omega) hV).mono fun _ _ _ _ ⟨h1, h2⟩ => ⟨h1, 4, h2, fun _ => hV, fun _ => rfl⟩

end Go.Proofs.Ytcfgogamamdipaa

/- The law of layer 9 on refusals. -/
namespace Go.Proofs.Ytcfgogamamdipaa
open Go.Hp
variable {G : World} {U U' : UH} {M M' : MH}

theorem cod_dec {p : Prop} [Decidable p] : dec (cod p = 0) = decide p := by
  rw [dec_eq]
  by_cases h : p
  · rw [cod_y h, decide_eq_true h]; rfl
  · rw [cod_n h, decide_eq_false h]; rfl
theorem cod_two {p : Prop} [Decidable p] : dec ((if p then (2 : Int) else 4) = 2) = decide p := by
  rw [dec_eq]
  by_cases h : p
  · rw [if_pos h, decide_eq_true h]; rfl
  · rw [if_neg h, decide_eq_false h]; rfl
theorem not_dec {e : Int} {p : Prop} [Decidable p] (h : e = 4 ↔ ¬ p) : dec (e = 4) = !decide p := by
  rw [dec_eq]
  by_cases hp : p
  · rw [decide_eq_true hp, decide_eq_false fun h4 => h.1 h4 hp]; rfl
  · rw [decide_eq_false hp, decide_eq_true (h.2 hp)]; rfl
theorem beq_not (b : Bool) : (b == !b) = false := by cases b <;> rfl
theorem cod_or {p : Prop} [Decidable p] : cod p = 0 ∨ cod p = 4 := by
  by_cases h : p
  · exact .inl (cod_y h)
  · exact .inr (cod_n h)
theorem bool_iff {b : Bool} {p : Prop} [Decidable p] (h : b = true ↔ p) : b = decide p := by
  cases b
  · exact (decide_eq_false fun hp => absurd (h.2 hp) (by decide)).symm
  · exact (decide_eq_true (h.1 rfl)).symm

theorem Lit.up {most n : Nat} {v : Value} {r c : Int} {f : Nat → Rat} (h : Lit most U v r c n f) (hU : ULe U U') : Lit most U' v r c n f := by
  obtain ⟨h1, h2, a, h3, h4⟩ := h
  exact ⟨h1, h2, a, h3, h4.up kept_w hU (List.Sublist.refl _)⟩

set_option maxHeartbeats 2000000 in
set_option maxRecDepth 100000 in
theorem MatrixRefuses_ct {va vb vx : Value} {ra ca rb cb : Int} {na nb nx : Nat} {fa fb fx : Nat → Rat} (ha : Raw U va ra ca na fa) (hb : Raw U vb rb cb nb fb) (hx : nx ≤ 9223372036854775807 ∧ Ls Xq 4 nx U [] vx fx) :
    Ct Try.prog 4 [va, vb, vx] G U M fun v _ _ => v = .bool true := by
  have ha0 := ha
  have hb0 := hb
  obtain ⟨ha1, ha2, ha3, _, rfl, pa, cca, asa, rfl, -⟩ := ha
  obtain ⟨hb1, hb2, hb3, _, rfl, pb, ccb, asb, rfl, -⟩ := hb
  obtain ⟨hnx, px, cx, xs, rfl, hcx, rx, ex⟩ := hx
  refine ct_of_st Try.func4 rfl rfl rfl rfl ?_
  repeat (first | refine run_S ?_ | refine w_box (fun _ => ?_) | refine w_al (fun _ => ?_))
  rename_i b3 b4
  refine sl_call rfl rfl rfl rfl rfl rfl (fun _ => awake9_ct) ?_
  rintro v1 U1 D1 hU1 ⟨rfl, -, rfl⟩
  try rw [List.nil_append]
  repeat (first | refine run_S ?_ | refine w_box (fun _ => ?_) | refine w_al (fun _ => ?_))
  refine sl_bslice (vs := [.agg #[.int .i64 ra, .int .i64 ca, .slice pa na cca], .agg #[.int .i64 rb, .int .i64 cb, .slice pb nb ccb]]) sym rfl rfl rfl rfl rfl rfl (all_size rfl) rfl rfl rfl rfl rfl rfl (fun bl => ?_)
  have hrl := (RowO.mk (e := TM) (s := 3) (b := bl) (n := 2) (vs := [.agg #[.int .i64 ra, .int .i64 ca, .slice pa na cca], .agg #[.int .i64 rb, .int .i64 cb, .slice pb nb ccb]]) rfl (all_size rfl) (by omega)).at (U := U1) (M := (bl, .arr [.agg #[.int .i64 ra, .int .i64 ca, .slice pa na cca], .agg #[.int .i64 rb, .int .i64 cb, .slice pb nb ccb]], TM) :: (b4, .var (.agg #[.int .i64 rb, .int .i64 cb, .slice pb nb ccb]), TM) :: (b3, .var (.agg #[.int .i64 ra, .int .i64 ca, .slice pa na cca]), TM) :: M) sb
  refine sl_call rfl rfl rfl rfl rfl rfl (fun _ => light_ct (most := 5) (r := fun k => if k = 0 then ra else rb) (c := fun k => if k = 0 then ca else cb) (n := fun k => if k = 0 then na else nb) (f := fun k => if k = 0 then fa else fb) (hrl.up uc sb) (two_rows (P := fun k v => Raw U1 v (if k = 0 then ra else rb) (if k = 0 then ca else cb) (if k = 0 then na else nb) (if k = 0 then fa else fb)) (ha0.up uc) (hb0.up uc)) (by decide) (by decide)) ?_
  rintro v2 U2 D2 hU2 ⟨b, rfl, hl, rfl, rfl⟩
  try rw [List.nil_append]
  cases b
  · repeat (first | refine run_S ?_ | refine w_box (fun _ => ?_) | refine w_al (fun _ => ?_))
    exact sk_ret [] sym rfl (.cons (.tmp rfl) .nil) uc sb (.inl rfl) rfl
  have la : Lit 5 U1 _ ra ca na fa := hl rfl 0 _ rfl
  have lb : Lit 5 U1 _ rb cb nb fb := hl rfl 1 _ rfl
  clear hl
  repeat (first | refine run_S ?_ | refine w_box (fun _ => ?_) | refine w_al (fun _ => ?_))
  refine sl_gdec rfl rfl (fun h => ?_) (fun hx10 => ?_)
  · repeat (first | refine run_S ?_ | refine w_box (fun _ => ?_) | refine w_al (fun _ => ?_))
    exact sk_ret [] sym rfl (.cons (.tmp rfl) .nil) uc sb (.inl rfl) rfl
  repeat (first | refine run_S ?_ | refine w_box (fun _ => ?_) | refine w_al (fun _ => ?_))
  refine sl_call rfl rfl rfl rfl rfl rfl (fun _ => short9_ct (rx.ls uc) (ex.up kept_x uc) (by omega)) ?_
  rintro v4 U4 D4 hU4 ⟨b4', rfl, hb4, rfl, rfl⟩
  try rw [List.nil_append]
  cases b4'
  · repeat (first | refine run_S ?_ | refine w_box (fun _ => ?_) | refine w_al (fun _ => ?_))
    exact sk_ret [] sym rfl (.cons (.tmp rfl) .nil) uc sb (.inl rfl) rfl
  have ew := hb4 rfl
  have rx1 := rx.up (U' := U1) (M' := []) uc (List.Sublist.refl _)
  clear hb4 hrl rx ex
  repeat (first | refine run_S ?_ | refine w_box (fun _ => ?_) | refine w_al (fun _ => ?_))
  refine st_draw [0, 2, 1, 3, 4, 5] sym (by kernel_rfl) ?_
  repeat (first | refine run_S ?_ | refine w_box (fun _ => ?_) | refine w_al (fun _ => ?_))
  refine sl_call rfl rfl rfl rfl rfl rfl (fun _ => m9Valid_ct (r := ra) (c := ca) (p := pa) (cc := cca) ha3) ?_
  rintro v U' D hU ⟨rfl, rfl, rfl⟩
  repeat (first | refine run_S ?_ | refine w_box (fun _ => ?_) | refine w_al (fun _ => ?_))
  refine sl_call rfl rfl rfl rfl rfl rfl (fun _ => m9Valid_ct (r := rb) (c := cb) (p := pb) (cc := ccb) hb3) ?_
  rintro v U' D hU ⟨rfl, rfl, rfl⟩
  repeat (first | refine run_S ?_ | refine w_box (fun _ => ?_) | refine w_al (fun _ => ?_))
  refine sl_call rfl rfl rfl rfl rfl rfl (fun _ => mValid_ct (r := ra) (c := ca) (p := pa) (cc := cca) ha3) ?_
  rintro v U' D hU ⟨rfl, rfl, rfl⟩
  repeat (first | refine run_S ?_ | refine w_box (fun _ => ?_) | refine w_al (fun _ => ?_))
  rw [beq_self_eq_true]
  repeat (first | refine run_S ?_ | refine w_box (fun _ => ?_) | refine w_al (fun _ => ?_))
  refine sl_call rfl rfl rfl rfl rfl rfl (fun _ => mValid_ct (r := rb) (c := cb) (p := pb) (cc := ccb) hb3) ?_
  rintro v U' D hU ⟨rfl, rfl, rfl⟩
  repeat (first | refine run_S ?_ | refine w_box (fun _ => ?_) | refine w_al (fun _ => ?_))
  rw [beq_self_eq_true]
  refine st_anti (M' := (b4, .var (.agg #[.int .i64 rb, .int .i64 cb, .slice pb nb ccb]), TM) :: (b3, .var (.agg #[.int .i64 ra, .int .i64 ca, .slice pa na cca]), TM) :: M) (ULe.refl _) sbk ?_
  clear hU2 hU4
  repeat clear hU
  repeat (first | refine run_S ?_ | refine w_box (fun _ => ?_) | refine w_al (fun _ => ?_))
  refine sl_call rfl rfl rfl rfl rfl rfl (fun _ => eAdd la lb) ?_
  rintro v5 U5 D5 hU5 ⟨rfl, r5, c5, p5, n5, cc5, rfl⟩
  try rw [List.nil_append]
  repeat (first | refine run_S ?_ | refine w_box (fun _ => ?_) | refine w_al (fun _ => ?_))
  refine sl_call rfl rfl rfl rfl rfl rfl (fun _ => eSub (la.up uc) (lb.up uc)) ?_
  rintro v6 U6 D6 hU6 ⟨rfl, r6, c6, p6, n6, cc6, rfl⟩
  try rw [List.nil_append]
  repeat (first | refine run_S ?_ | refine w_box (fun _ => ?_) | refine w_al (fun _ => ?_))
  refine sl_call rfl rfl rfl rfl rfl rfl (fun _ => eMul (la.up uc) (lb.up uc)) ?_
  rintro v7 U7 D7 hU7 ⟨rfl, r7, c7, p7, n7, cc7, rfl⟩
  try rw [List.nil_append]
  repeat (first | refine run_O ?_ | refine w_box (fun _ => ?_) | refine w_al (fun _ => ?_))
  refine st_anti (M' := (b4, .var (.agg #[.int .i64 rb, .int .i64 cb, .slice pb nb ccb]), TM) :: (b3, .var (.agg #[.int .i64 ra, .int .i64 ca, .slice pa na cca]), TM) :: M) (ULe.refl _) sbk ?_
  generalize hA : decide (Vld ra ca na) = A
  generalize hB : decide (Vld rb cb nb) = B
  have hA' : A = true ↔ Vld ra ca na := by rw [← hA]; exact decide_eq_true_iff
  have hB' : B = true ↔ Vld rb cb nb := by rw [← hB]; exact decide_eq_true_iff
  have nt : ∀ {p : Prop}, false = true → p := fun h => by cases h
  refine st_seq_cut (fun E U' M' => ∃ (s : Bool), (s = true ↔ Vld ra ca na ∧ Vld rb cb nb ∧ ra = rb ∧ ca = cb) ∧ E = [(2, .slice px nx cx), (3, .pointer (some ⟨b3, 0, none⟩)), (4, .pointer (some ⟨b4, 0, none⟩)), (7, .bool A), (8, .bool B), (10, .int .i64 (cod (Vld ra ca na ∧ Vld rb cb nb ∧ ra = rb ∧ ca = cb))), (12, .int .i64 (cod (Vld ra ca na ∧ Vld rb cb nb ∧ ra = rb ∧ ca = cb))), (14, .int .i64 (cod (Vld ra ca na ∧ Vld rb cb nb ∧ ca = rb))), (15, .bool s)] ∧ ULe U7 U' ∧ M' = (b4, .var (.agg #[.int .i64 rb, .int .i64 cb, .slice pb nb ccb]), TM) :: (b3, .var (.agg #[.int .i64 ra, .int .i64 ca, .slice pa na cca]), TM) :: M) ?_ ?_
  · cases A
    · repeat (first | refine run_S ?_ | refine w_box (fun _ => ?_) | refine w_al (fun _ => ?_))
      exact sk_cut (E' := [(2, .slice px nx cx), (3, .pointer (some ⟨b3, 0, none⟩)), (4, .pointer (some ⟨b4, 0, none⟩)), (7, .bool false), (8, .bool B), (10, .int .i64 (cod (Vld ra ca na ∧ Vld rb cb nb ∧ ra = rb ∧ ca = cb))), (12, .int .i64 (cod (Vld ra ca na ∧ Vld rb cb nb ∧ ra = rb ∧ ca = cb))), (14, .int .i64 (cod (Vld ra ca na ∧ Vld rb cb nb ∧ ca = rb))), (15, .bool false)]) ⟨rfl, rfl, rfl, rfl, rfl, rfl, rfl, rfl, rfl, trivial⟩ ⟨false, ⟨nt, fun h => absurd (hA'.2 h.1) (by decide)⟩, rfl, uc, rfl⟩
    cases B
    · repeat (first | refine run_S ?_ | refine w_box (fun _ => ?_) | refine w_al (fun _ => ?_))
      exact sk_cut (E' := [(2, .slice px nx cx), (3, .pointer (some ⟨b3, 0, none⟩)), (4, .pointer (some ⟨b4, 0, none⟩)), (7, .bool true), (8, .bool false), (10, .int .i64 (cod (Vld ra ca na ∧ Vld rb cb nb ∧ ra = rb ∧ ca = cb))), (12, .int .i64 (cod (Vld ra ca na ∧ Vld rb cb nb ∧ ra = rb ∧ ca = cb))), (14, .int .i64 (cod (Vld ra ca na ∧ Vld rb cb nb ∧ ca = rb))), (15, .bool false)]) ⟨rfl, rfl, rfl, rfl, rfl, rfl, rfl, rfl, rfl, trivial⟩ ⟨false, ⟨nt, fun h => absurd (hB'.2 h.2.1) (by decide)⟩, rfl, uc, rfl⟩
    repeat (first | refine run_S ?_ | refine w_box (fun _ => ?_) | refine w_al (fun _ => ?_))
    refine sl_gdec rfl rfl (fun h3 => ?_) (fun h3 => ?_)
    · repeat (first | refine run_S ?_ | refine w_box (fun _ => ?_) | refine w_al (fun _ => ?_))
      exact sk_cut (E' := [(2, .slice px nx cx), (3, .pointer (some ⟨b3, 0, none⟩)), (4, .pointer (some ⟨b4, 0, none⟩)), (7, .bool true), (8, .bool true), (10, .int .i64 (cod (Vld ra ca na ∧ Vld rb cb nb ∧ ra = rb ∧ ca = cb))), (12, .int .i64 (cod (Vld ra ca na ∧ Vld rb cb nb ∧ ra = rb ∧ ca = cb))), (14, .int .i64 (cod (Vld ra ca na ∧ Vld rb cb nb ∧ ca = rb))), (15, .bool (dec (ca = cb)))]) ⟨rfl, rfl, rfl, rfl, rfl, rfl, rfl, rfl, rfl, trivial⟩ ⟨dec (ca = cb), ⟨fun h => ⟨hA'.1 rfl, hB'.1 rfl, h3, of_dec h⟩, fun h => dec_true h.2.2.2⟩, rfl, uc, rfl⟩
    · repeat (first | refine run_S ?_ | refine w_box (fun _ => ?_) | refine w_al (fun _ => ?_))
      exact sk_cut (E' := [(2, .slice px nx cx), (3, .pointer (some ⟨b3, 0, none⟩)), (4, .pointer (some ⟨b4, 0, none⟩)), (7, .bool true), (8, .bool true), (10, .int .i64 (cod (Vld ra ca na ∧ Vld rb cb nb ∧ ra = rb ∧ ca = cb))), (12, .int .i64 (cod (Vld ra ca na ∧ Vld rb cb nb ∧ ra = rb ∧ ca = cb))), (14, .int .i64 (cod (Vld ra ca na ∧ Vld rb cb nb ∧ ca = rb))), (15, .bool false)]) ⟨rfl, rfl, rfl, rfl, rfl, rfl, rfl, rfl, rfl, trivial⟩ ⟨false, ⟨nt, fun h => absurd h.2.2.1 h3⟩, rfl, uc, rfl⟩
  rintro E U8 M' ⟨s, hs, rfl, hU8, rfl⟩
  obtain rfl := bool_iff hs
  clear hs
  refine st_seq_cut (fun E U' M' => True ∧ E = [(2, .slice px nx cx), (3, .pointer (some ⟨b3, 0, none⟩)), (4, .pointer (some ⟨b4, 0, none⟩)), (7, .bool A), (8, .bool B), (10, .int .i64 (cod (Vld ra ca na ∧ Vld rb cb nb ∧ ra = rb ∧ ca = cb))), (12, .int .i64 (cod (Vld ra ca na ∧ Vld rb cb nb ∧ ra = rb ∧ ca = cb))), (14, .int .i64 (cod (Vld ra ca na ∧ Vld rb cb nb ∧ ca = rb)))] ∧ ULe U8 U' ∧ M' = (b4, .var (.agg #[.int .i64 rb, .int .i64 cb, .slice pb nb ccb]), TM) :: (b3, .var (.agg #[.int .i64 ra, .int .i64 ca, .slice pa na cca]), TM) :: M) ?_ ?_
  · repeat (first | refine run_S ?_ | refine w_box (fun _ => ?_) | refine w_al (fun _ => ?_))
    rw [cod_dec, beq_self_eq_true]
    repeat (first | refine run_S ?_ | refine w_box (fun _ => ?_) | refine w_al (fun _ => ?_))
    rw [cod_dec, beq_self_eq_true]
    repeat (first | refine run_S ?_ | refine w_box (fun _ => ?_) | refine w_al (fun _ => ?_))
    cases A
    · repeat (first | refine run_S ?_ | refine w_box (fun _ => ?_) | refine w_al (fun _ => ?_))
      rw [cod_dec, decide_eq_false fun h => absurd (hA'.2 h.1) (by decide)]
      repeat (first | refine run_S ?_ | refine w_box (fun _ => ?_) | refine w_al (fun _ => ?_))
      exact sk_cut (E' := [(2, .slice px nx cx), (3, .pointer (some ⟨b3, 0, none⟩)), (4, .pointer (some ⟨b4, 0, none⟩)), (7, .bool false), (8, .bool B), (10, .int .i64 (cod (Vld ra ca na ∧ Vld rb cb nb ∧ ra = rb ∧ ca = cb))), (12, .int .i64 (cod (Vld ra ca na ∧ Vld rb cb nb ∧ ra = rb ∧ ca = cb))), (14, .int .i64 (cod (Vld ra ca na ∧ Vld rb cb nb ∧ ca = rb)))]) ⟨rfl, rfl, rfl, rfl, rfl, rfl, rfl, rfl, trivial⟩ ⟨trivial, rfl, uc, rfl⟩
    cases B
    · repeat (first | refine run_S ?_ | refine w_box (fun _ => ?_) | refine w_al (fun _ => ?_))
      rw [cod_dec, decide_eq_false fun h => absurd (hB'.2 h.2.1) (by decide)]
      repeat (first | refine run_S ?_ | refine w_box (fun _ => ?_) | refine w_al (fun _ => ?_))
      exact sk_cut (E' := [(2, .slice px nx cx), (3, .pointer (some ⟨b3, 0, none⟩)), (4, .pointer (some ⟨b4, 0, none⟩)), (7, .bool true), (8, .bool false), (10, .int .i64 (cod (Vld ra ca na ∧ Vld rb cb nb ∧ ra = rb ∧ ca = cb))), (12, .int .i64 (cod (Vld ra ca na ∧ Vld rb cb nb ∧ ra = rb ∧ ca = cb))), (14, .int .i64 (cod (Vld ra ca na ∧ Vld rb cb nb ∧ ca = rb)))]) ⟨rfl, rfl, rfl, rfl, rfl, rfl, rfl, rfl, trivial⟩ ⟨trivial, rfl, uc, rfl⟩
    repeat (first | refine run_S ?_ | refine w_box (fun _ => ?_) | refine w_al (fun _ => ?_))
    rw [cod_dec, show decide (Vld ra ca na ∧ Vld rb cb nb ∧ ca = rb) = dec (ca = rb) from (bool_iff ⟨fun h => ⟨hA'.1 rfl, hB'.1 rfl, of_dec h⟩, fun h => dec_true h.2.2⟩).symm, beq_self_eq_true]
    repeat (first | refine run_S ?_ | refine w_box (fun _ => ?_) | refine w_al (fun _ => ?_))
    exact sk_cut (E' := [(2, .slice px nx cx), (3, .pointer (some ⟨b3, 0, none⟩)), (4, .pointer (some ⟨b4, 0, none⟩)), (7, .bool true), (8, .bool true), (10, .int .i64 (cod (Vld ra ca na ∧ Vld rb cb nb ∧ ra = rb ∧ ca = cb))), (12, .int .i64 (cod (Vld ra ca na ∧ Vld rb cb nb ∧ ra = rb ∧ ca = cb))), (14, .int .i64 (cod (Vld ra ca na ∧ Vld rb cb nb ∧ ca = rb)))]) ⟨rfl, rfl, rfl, rfl, rfl, rfl, rfl, rfl, trivial⟩ ⟨trivial, rfl, uc, rfl⟩
  rintro E U9 M' ⟨-, rfl, hU9, rfl⟩
  try refine run_s ?_
  refine st_drawM [7, 8] [0, 1, 2, 3, 4, 5, 6, 7, 8] sym (by kernel_rfl) ?_
  repeat (first | refine run_S ?_ | refine w_box (fun _ => ?_) | refine w_al (fun _ => ?_))
  refine sl_call rfl rfl rfl rfl rfl rfl (fun _ => (bQ_ct (z := 2) (by decide) (by decide)).settle) ?_
  rintro v Uh2 D hU ⟨rfl, _, _, ⟨xh2, rfl, h2, -⟩, -, -, hs⟩
  replace h2 := h2.sett hs
  clear hs
  repeat (first | refine run_S ?_ | refine w_box (fun _ => ?_) | refine w_al (fun _ => ?_))
  have s2 : Szq ((2 : Int) : Rat) 1 := ⟨by unfold Sz; decide, by unfold Sz; decide⟩
  refine sl_call rfl rfl rfl rfl rfl rfl (fun _ => eScale (la.up uc) (h2.rep.up uc (List.Sublist.refl _)) (h2.le s2 (Nat.le_refl _))) ?_
  rintro v10 U10 D10 hU10 ⟨rfl, r10, c10, p10, n10, cc10, rfl⟩
  try rw [List.nil_append]
  repeat (first | refine run_S ?_ | refine w_box (fun _ => ?_) | refine w_al (fun _ => ?_))
  refine sl_call rfl rfl rfl rfl rfl rfl (fun _ => eTranspose (la.up uc)) ?_
  rintro v11 U11 D11 hU11 ⟨rfl, r11, c11, p11, n11, cc11, rfl⟩
  try rw [List.nil_append]
  repeat (first | refine run_S ?_ | refine w_box (fun _ => ?_) | refine w_al (fun _ => ?_))
  refine sl_call rfl rfl rfl rfl rfl rfl (fun _ => eEchelon (la.up uc)) ?_
  rintro v12 U12 D12 hU12 ⟨rfl, r12, c12, p12, n12, cc12, q12, l12, d12, rfl⟩
  try rw [List.nil_append]
  repeat (first | refine run_S ?_ | refine w_box (fun _ => ?_) | refine w_al (fun _ => ?_))
  refine sl_call rfl rfl rfl rfl rfl rfl (fun _ => eRank (la.up uc)) ?_
  rintro v13 U13 D13 hU13 ⟨rfl, r13, rfl⟩
  try rw [List.nil_append]
  repeat (first | refine run_S ?_ | refine w_box (fun _ => ?_) | refine w_al (fun _ => ?_))
  refine sl_call rfl rfl rfl rfl rfl rfl (fun _ => eKernel (la.up uc)) ?_
  rintro v14 U14 D14 hU14 ⟨rfl, r14, c14, p14, n14, cc14, rfl⟩
  try rw [List.nil_append]
  repeat (first | refine run_S ?_ | refine w_box (fun _ => ?_) | refine w_al (fun _ => ?_))
  refine sl_call rfl rfl rfl rfl rfl rfl (fun _ => eRow (la.up uc)) ?_
  rintro v15 U15 D15 hU15 ⟨rfl, p15, n15, c15, rfl⟩
  try rw [List.nil_append]
  repeat (first | refine run_O ?_ | refine w_box (fun _ => ?_) | refine w_al (fun _ => ?_))
  refine st_anti (M' := (b4, .var (.agg #[.int .i64 rb, .int .i64 cb, .slice pb nb ccb]), TM) :: (b3, .var (.agg #[.int .i64 ra, .int .i64 ca, .slice pa na cca]), TM) :: M) (ULe.refl _) sbk ?_
  refine st_seq_cut (fun E U' M' => True ∧ E = [(2, .slice px nx cx), (3, .pointer (some ⟨b3, 0, none⟩)), (4, .pointer (some ⟨b4, 0, none⟩)), (7, .bool A), (8, .bool B), (10, .int .i64 (cod (Vld ra ca na ∧ Vld rb cb nb ∧ ra = rb ∧ ca = cb))), (12, .int .i64 (cod (Vld ra ca na ∧ Vld rb cb nb ∧ ra = rb ∧ ca = cb))), (14, .int .i64 (cod (Vld ra ca na ∧ Vld rb cb nb ∧ ca = rb))), (17, .int .i64 (cod (Vld ra ca na))), (19, .int .i64 (cod (Vld ra ca na))), (22, .int .i64 (cod (Vld ra ca na))), (24, .int .i64 (cod (Vld ra ca na))), (26, .int .i64 (cod (Vld ra ca na)))] ∧ ULe U15 U' ∧ M' = (b4, .var (.agg #[.int .i64 rb, .int .i64 cb, .slice pb nb ccb]), TM) :: (b3, .var (.agg #[.int .i64 ra, .int .i64 ca, .slice pa na cca]), TM) :: M) ?_ ?_
  · repeat (first | refine run_S ?_ | refine w_box (fun _ => ?_) | refine w_al (fun _ => ?_))
    rw [cod_dec, hA, beq_self_eq_true]
    repeat (first | refine run_S ?_ | refine w_box (fun _ => ?_) | refine w_al (fun _ => ?_))
    rw [cod_dec, hA, beq_self_eq_true]
    repeat (first | refine run_S ?_ | refine w_box (fun _ => ?_) | refine w_al (fun _ => ?_))
    rw [cod_dec, hA, beq_self_eq_true]
    repeat (first | refine run_S ?_ | refine w_box (fun _ => ?_) | refine w_al (fun _ => ?_))
    rw [cod_dec, hA, beq_self_eq_true]
    repeat (first | refine run_S ?_ | refine w_box (fun _ => ?_) | refine w_al (fun _ => ?_))
    rw [cod_dec, hA, beq_self_eq_true]
    repeat (first | refine run_S ?_ | refine w_box (fun _ => ?_) | refine w_al (fun _ => ?_))
    rw [cod_two, hA, beq_self_eq_true]
    repeat (first | refine run_S ?_ | refine w_box (fun _ => ?_) | refine w_al (fun _ => ?_))
    cases A
    · repeat (first | refine run_S ?_ | refine w_box (fun _ => ?_) | refine w_al (fun _ => ?_))
      rw [if_neg (of_decide_eq_false hA)]
      repeat (first | refine run_S ?_ | refine w_box (fun _ => ?_) | refine w_al (fun _ => ?_))
      refine st_ne rfl (fun h => absurd rfl h) (fun _ => ?_)
      repeat (first | refine run_S ?_ | refine w_box (fun _ => ?_) | refine w_al (fun _ => ?_))
      exact sk_cut (E' := [(2, .slice px nx cx), (3, .pointer (some ⟨b3, 0, none⟩)), (4, .pointer (some ⟨b4, 0, none⟩)), (7, .bool false), (8, .bool B), (10, .int .i64 (cod (Vld ra ca na ∧ Vld rb cb nb ∧ ra = rb ∧ ca = cb))), (12, .int .i64 (cod (Vld ra ca na ∧ Vld rb cb nb ∧ ra = rb ∧ ca = cb))), (14, .int .i64 (cod (Vld ra ca na ∧ Vld rb cb nb ∧ ca = rb))), (17, .int .i64 (cod (Vld ra ca na))), (19, .int .i64 (cod (Vld ra ca na))), (22, .int .i64 (cod (Vld ra ca na))), (24, .int .i64 (cod (Vld ra ca na))), (26, .int .i64 (cod (Vld ra ca na)))]) ⟨rfl, rfl, rfl, rfl, rfl, rfl, rfl, rfl, rfl, rfl, rfl, rfl, rfl, trivial⟩ ⟨trivial, rfl, uc, rfl⟩
    · repeat (first | refine run_S ?_ | refine w_box (fun _ => ?_) | refine w_al (fun _ => ?_))
      exact sk_cut (E' := [(2, .slice px nx cx), (3, .pointer (some ⟨b3, 0, none⟩)), (4, .pointer (some ⟨b4, 0, none⟩)), (7, .bool true), (8, .bool B), (10, .int .i64 (cod (Vld ra ca na ∧ Vld rb cb nb ∧ ra = rb ∧ ca = cb))), (12, .int .i64 (cod (Vld ra ca na ∧ Vld rb cb nb ∧ ra = rb ∧ ca = cb))), (14, .int .i64 (cod (Vld ra ca na ∧ Vld rb cb nb ∧ ca = rb))), (17, .int .i64 (cod (Vld ra ca na))), (19, .int .i64 (cod (Vld ra ca na))), (22, .int .i64 (cod (Vld ra ca na))), (24, .int .i64 (cod (Vld ra ca na))), (26, .int .i64 (cod (Vld ra ca na)))]) ⟨rfl, rfl, rfl, rfl, rfl, rfl, rfl, rfl, rfl, rfl, rfl, rfl, rfl, trivial⟩ ⟨trivial, rfl, uc, rfl⟩
  rintro E U16 M' ⟨-, rfl, hU16, rfl⟩
  refine st_seq_cut (fun E U' M' => ∃ (s : Bool), (s = true ↔ Vld ra ca na ∧ ra = ca) ∧ E = [(2, .slice px nx cx), (3, .pointer (some ⟨b3, 0, none⟩)), (4, .pointer (some ⟨b4, 0, none⟩)), (7, .bool A), (8, .bool B), (10, .int .i64 (cod (Vld ra ca na ∧ Vld rb cb nb ∧ ra = rb ∧ ca = cb))), (12, .int .i64 (cod (Vld ra ca na ∧ Vld rb cb nb ∧ ra = rb ∧ ca = cb))), (14, .int .i64 (cod (Vld ra ca na ∧ Vld rb cb nb ∧ ca = rb))), (17, .int .i64 (cod (Vld ra ca na))), (19, .int .i64 (cod (Vld ra ca na))), (22, .int .i64 (cod (Vld ra ca na))), (24, .int .i64 (cod (Vld ra ca na))), (26, .int .i64 (cod (Vld ra ca na))), (29, .bool s)] ∧ ULe U16 U' ∧ M' = (b4, .var (.agg #[.int .i64 rb, .int .i64 cb, .slice pb nb ccb]), TM) :: (b3, .var (.agg #[.int .i64 ra, .int .i64 ca, .slice pa na cca]), TM) :: M) ?_ ?_
  · cases A
    · repeat (first | refine run_S ?_ | refine w_box (fun _ => ?_) | refine w_al (fun _ => ?_))
      exact sk_cut (E' := [(2, .slice px nx cx), (3, .pointer (some ⟨b3, 0, none⟩)), (4, .pointer (some ⟨b4, 0, none⟩)), (7, .bool false), (8, .bool B), (10, .int .i64 (cod (Vld ra ca na ∧ Vld rb cb nb ∧ ra = rb ∧ ca = cb))), (12, .int .i64 (cod (Vld ra ca na ∧ Vld rb cb nb ∧ ra = rb ∧ ca = cb))), (14, .int .i64 (cod (Vld ra ca na ∧ Vld rb cb nb ∧ ca = rb))), (17, .int .i64 (cod (Vld ra ca na))), (19, .int .i64 (cod (Vld ra ca na))), (22, .int .i64 (cod (Vld ra ca na))), (24, .int .i64 (cod (Vld ra ca na))), (26, .int .i64 (cod (Vld ra ca na))), (29, .bool false)]) ⟨rfl, rfl, rfl, rfl, rfl, rfl, rfl, rfl, rfl, rfl, rfl, rfl, rfl, rfl, trivial⟩ ⟨false, ⟨nt, fun h => absurd (hA'.2 h.1) (by decide)⟩, rfl, uc, rfl⟩
    repeat (first | refine run_S ?_ | refine w_box (fun _ => ?_) | refine w_al (fun _ => ?_))
    exact sk_cut (E' := [(2, .slice px nx cx), (3, .pointer (some ⟨b3, 0, none⟩)), (4, .pointer (some ⟨b4, 0, none⟩)), (7, .bool true), (8, .bool B), (10, .int .i64 (cod (Vld ra ca na ∧ Vld rb cb nb ∧ ra = rb ∧ ca = cb))), (12, .int .i64 (cod (Vld ra ca na ∧ Vld rb cb nb ∧ ra = rb ∧ ca = cb))), (14, .int .i64 (cod (Vld ra ca na ∧ Vld rb cb nb ∧ ca = rb))), (17, .int .i64 (cod (Vld ra ca na))), (19, .int .i64 (cod (Vld ra ca na))), (22, .int .i64 (cod (Vld ra ca na))), (24, .int .i64 (cod (Vld ra ca na))), (26, .int .i64 (cod (Vld ra ca na))), (29, .bool (dec (ra = ca)))]) ⟨rfl, rfl, rfl, rfl, rfl, rfl, rfl, rfl, rfl, rfl, rfl, rfl, rfl, rfl, trivial⟩ ⟨dec (ra = ca), ⟨fun h => ⟨hA'.1 rfl, of_dec h⟩, fun h => dec_true h.2⟩, rfl, uc, rfl⟩
  rintro E U17 M' ⟨s, hs, rfl, hU17, rfl⟩
  obtain rfl := bool_iff hs
  clear hs
  repeat (first | refine run_S ?_ | refine w_box (fun _ => ?_) | refine w_al (fun _ => ?_))
  refine sl_call rfl rfl rfl rfl rfl rfl (fun _ => ePower (la.up uc)) ?_
  rintro v20 U20 D20 hU20 ⟨rfl, r20, c20, p20, n20, cc20, rfl⟩
  try rw [List.nil_append]
  repeat (first | refine run_S ?_ | refine w_box (fun _ => ?_) | refine w_al (fun _ => ?_))
  refine sl_call rfl rfl rfl rfl rfl rfl (fun _ => ePowerN (la.up uc)) ?_
  rintro v21 U21 D21 hU21 ⟨rfl, r21, c21, p21, n21, cc21, rfl⟩
  try rw [List.nil_append]
  repeat (first | refine run_S ?_ | refine w_box (fun _ => ?_) | refine w_al (fun _ => ?_))
  refine sl_call rfl rfl rfl rfl rfl rfl (fun _ => eInverse (la.up uc)) ?_
  rintro v22 U22 D22 hU22 ⟨rfl, e22, ⟨r22, c22, p22, n22, cc22, rfl⟩, hi22⟩
  try rw [List.nil_append]
  repeat (first | refine run_S ?_ | refine w_box (fun _ => ?_) | refine w_al (fun _ => ?_))
  refine sl_call rfl rfl rfl rfl rfl rfl (fun _ => eDet (la.up uc)) ?_
  rintro v23 U23 D23 hU23 ⟨rfl, x23, rfl⟩
  try rw [List.nil_append]
  repeat (first | refine run_S ?_ | refine w_box (fun _ => ?_) | refine w_al (fun _ => ?_))
  refine sl_call rfl rfl rfl rfl rfl rfl (fun _ => eTrace (la.up uc)) ?_
  rintro v24 U24 D24 hU24 ⟨rfl, x24, rfl⟩
  try rw [List.nil_append]
  repeat (first | refine run_S ?_ | refine w_box (fun _ => ?_) | refine w_al (fun _ => ?_))
  refine sl_call rfl rfl rfl rfl rfl rfl (fun _ => eSignature (la.up uc)) ?_
  rintro v25 U25 D25 hU25 ⟨rfl, e25, ⟨a25, b25, c25, rfl⟩, hi25⟩
  try rw [List.nil_append]
  repeat (first | refine run_S ?_ | refine w_box (fun _ => ?_) | refine w_al (fun _ => ?_))
  refine sl_call rfl rfl rfl rfl rfl rfl (fun _ => eApply (la.up uc) (rx1.up uc (List.Sublist.refl _)) hcx (ew.up kept_w uc)) ?_
  rintro v26 U26 D26 hU26 ⟨rfl, p26, n26, c26, rfl⟩
  try rw [List.nil_append]
  repeat (first | refine run_S ?_ | refine w_box (fun _ => ?_) | refine w_al (fun _ => ?_))
  refine sl_call rfl rfl rfl rfl rfl rfl (fun _ => eSolve (la.up uc) (rx1.up uc (List.Sublist.refl _)) hcx (ew.up kept_w uc)) ?_
  rintro v27 U27 D27 hU27 ⟨rfl, e27, ⟨p27, n27, c27, rfl⟩, hi27⟩
  try rw [List.nil_append]
  repeat (first | refine run_O ?_ | refine w_box (fun _ => ?_) | refine w_al (fun _ => ?_))
  refine st_anti (M' := (b4, .var (.agg #[.int .i64 rb, .int .i64 cb, .slice pb nb ccb]), TM) :: (b3, .var (.agg #[.int .i64 ra, .int .i64 ca, .slice pa na cca]), TM) :: M) (ULe.refl _) sbk ?_
  refine st_seq_cut (fun E U' M' => True ∧ E = [(2, .slice px nx cx), (3, .pointer (some ⟨b3, 0, none⟩)), (4, .pointer (some ⟨b4, 0, none⟩)), (7, .bool A), (8, .bool B), (10, .int .i64 (cod (Vld ra ca na ∧ Vld rb cb nb ∧ ra = rb ∧ ca = cb))), (12, .int .i64 (cod (Vld ra ca na ∧ Vld rb cb nb ∧ ra = rb ∧ ca = cb))), (14, .int .i64 (cod (Vld ra ca na ∧ Vld rb cb nb ∧ ca = rb))), (17, .int .i64 (cod (Vld ra ca na))), (19, .int .i64 (cod (Vld ra ca na))), (22, .int .i64 (cod (Vld ra ca na))), (24, .int .i64 (cod (Vld ra ca na))), (26, .int .i64 (cod (Vld ra ca na))), (29, .bool (decide (Vld ra ca na ∧ ra = ca))), (31, .int .i64 (cod (Vld ra ca na ∧ ra = ca))), (33, .int .i64 (if Vld ra ca na ∧ ra = ca then 2 else 4)), (35, .int .i64 e22), (37, .int .i64 (cod (Vld ra ca na ∧ ra = ca))), (39, .int .i64 (cod (Vld ra ca na ∧ ra = ca))), (43, .int .i64 e25), (45, .int .i64 (cod (Vld ra ca na ∧ (nx : Int) = ra))), (47, .int .i64 e27)] ∧ ULe U27 U' ∧ M' = (b4, .var (.agg #[.int .i64 rb, .int .i64 cb, .slice pb nb ccb]), TM) :: (b3, .var (.agg #[.int .i64 ra, .int .i64 ca, .slice pa na cca]), TM) :: M) ?_ ?_
  · repeat (first | refine run_S ?_ | refine w_box (fun _ => ?_) | refine w_al (fun _ => ?_))
    rw [cod_dec, beq_self_eq_true]
    repeat (first | refine run_S ?_ | refine w_box (fun _ => ?_) | refine w_al (fun _ => ?_))
    rw [cod_dec, beq_self_eq_true]
    repeat (first | refine run_S ?_ | refine w_box (fun _ => ?_) | refine w_al (fun _ => ?_))
    rw [cod_dec, beq_self_eq_true]
    repeat (first | refine run_S ?_ | refine w_box (fun _ => ?_) | refine w_al (fun _ => ?_))
    cases A
    · repeat (first | refine run_S ?_ | refine w_box (fun _ => ?_) | refine w_al (fun _ => ?_))
      rw [cod_dec, show decide (Vld ra ca na ∧ (nx : Int) = ra) = false from decide_eq_false fun h => absurd (hA'.2 h.1) (by decide)]
      repeat (first | refine run_S ?_ | refine w_box (fun _ => ?_) | refine w_al (fun _ => ?_))
      exact sk_cut (E' := [(2, .slice px nx cx), (3, .pointer (some ⟨b3, 0, none⟩)), (4, .pointer (some ⟨b4, 0, none⟩)), (7, .bool false), (8, .bool B), (10, .int .i64 (cod (Vld ra ca na ∧ Vld rb cb nb ∧ ra = rb ∧ ca = cb))), (12, .int .i64 (cod (Vld ra ca na ∧ Vld rb cb nb ∧ ra = rb ∧ ca = cb))), (14, .int .i64 (cod (Vld ra ca na ∧ Vld rb cb nb ∧ ca = rb))), (17, .int .i64 (cod (Vld ra ca na))), (19, .int .i64 (cod (Vld ra ca na))), (22, .int .i64 (cod (Vld ra ca na))), (24, .int .i64 (cod (Vld ra ca na))), (26, .int .i64 (cod (Vld ra ca na))), (29, .bool (decide (Vld ra ca na ∧ ra = ca))), (31, .int .i64 (cod (Vld ra ca na ∧ ra = ca))), (33, .int .i64 (if Vld ra ca na ∧ ra = ca then 2 else 4)), (35, .int .i64 e22), (37, .int .i64 (cod (Vld ra ca na ∧ ra = ca))), (39, .int .i64 (cod (Vld ra ca na ∧ ra = ca))), (43, .int .i64 e25), (45, .int .i64 (cod (Vld ra ca na ∧ (nx : Int) = ra))), (47, .int .i64 e27)]) ⟨rfl, rfl, rfl, rfl, rfl, rfl, rfl, rfl, rfl, rfl, rfl, rfl, rfl, rfl, rfl, rfl, rfl, rfl, rfl, rfl, rfl, rfl, trivial⟩ ⟨trivial, rfl, uc, rfl⟩
    repeat (first | refine run_S ?_ | refine w_box (fun _ => ?_) | refine w_al (fun _ => ?_))
    rw [cod_dec, show decide (Vld ra ca na ∧ (nx : Int) = ra) = dec ((nx : Int) = ra) from (bool_iff ⟨fun h => ⟨hA'.1 rfl, of_dec h⟩, fun h => dec_true h.2⟩).symm, beq_self_eq_true]
    repeat (first | refine run_S ?_ | refine w_box (fun _ => ?_) | refine w_al (fun _ => ?_))
    exact sk_cut (E' := [(2, .slice px nx cx), (3, .pointer (some ⟨b3, 0, none⟩)), (4, .pointer (some ⟨b4, 0, none⟩)), (7, .bool true), (8, .bool B), (10, .int .i64 (cod (Vld ra ca na ∧ Vld rb cb nb ∧ ra = rb ∧ ca = cb))), (12, .int .i64 (cod (Vld ra ca na ∧ Vld rb cb nb ∧ ra = rb ∧ ca = cb))), (14, .int .i64 (cod (Vld ra ca na ∧ Vld rb cb nb ∧ ca = rb))), (17, .int .i64 (cod (Vld ra ca na))), (19, .int .i64 (cod (Vld ra ca na))), (22, .int .i64 (cod (Vld ra ca na))), (24, .int .i64 (cod (Vld ra ca na))), (26, .int .i64 (cod (Vld ra ca na))), (29, .bool (decide (Vld ra ca na ∧ ra = ca))), (31, .int .i64 (cod (Vld ra ca na ∧ ra = ca))), (33, .int .i64 (if Vld ra ca na ∧ ra = ca then 2 else 4)), (35, .int .i64 e22), (37, .int .i64 (cod (Vld ra ca na ∧ ra = ca))), (39, .int .i64 (cod (Vld ra ca na ∧ ra = ca))), (43, .int .i64 e25), (45, .int .i64 (cod (Vld ra ca na ∧ (nx : Int) = ra))), (47, .int .i64 e27)]) ⟨rfl, rfl, rfl, rfl, rfl, rfl, rfl, rfl, rfl, rfl, rfl, rfl, rfl, rfl, rfl, rfl, rfl, rfl, rfl, rfl, rfl, rfl, trivial⟩ ⟨trivial, rfl, uc, rfl⟩
  rintro E U28 M' ⟨-, rfl, hU28, rfl⟩
  refine st_seq_cut (fun E U' M' => True ∧ E = [(2, .slice px nx cx), (3, .pointer (some ⟨b3, 0, none⟩)), (4, .pointer (some ⟨b4, 0, none⟩)), (7, .bool A), (8, .bool B), (10, .int .i64 (cod (Vld ra ca na ∧ Vld rb cb nb ∧ ra = rb ∧ ca = cb))), (12, .int .i64 (cod (Vld ra ca na ∧ Vld rb cb nb ∧ ra = rb ∧ ca = cb))), (14, .int .i64 (cod (Vld ra ca na ∧ Vld rb cb nb ∧ ca = rb))), (17, .int .i64 (cod (Vld ra ca na))), (19, .int .i64 (cod (Vld ra ca na))), (22, .int .i64 (cod (Vld ra ca na))), (24, .int .i64 (cod (Vld ra ca na))), (26, .int .i64 (cod (Vld ra ca na))), (29, .bool (decide (Vld ra ca na ∧ ra = ca))), (31, .int .i64 (cod (Vld ra ca na ∧ ra = ca))), (33, .int .i64 (if Vld ra ca na ∧ ra = ca then 2 else 4)), (35, .int .i64 e22), (37, .int .i64 (cod (Vld ra ca na ∧ ra = ca))), (39, .int .i64 (cod (Vld ra ca na ∧ ra = ca))), (43, .int .i64 e25), (45, .int .i64 (cod (Vld ra ca na ∧ (nx : Int) = ra))), (47, .int .i64 e27)] ∧ ULe U28 U' ∧ M' = (b4, .var (.agg #[.int .i64 rb, .int .i64 cb, .slice pb nb ccb]), TM) :: (b3, .var (.agg #[.int .i64 ra, .int .i64 ca, .slice pa na cca]), TM) :: M) ?_ ?_
  · repeat (first | refine run_S ?_ | refine w_box (fun _ => ?_) | refine w_al (fun _ => ?_))
    rw [cod_two, beq_self_eq_true]
    repeat (first | refine run_S ?_ | refine w_box (fun _ => ?_) | refine w_al (fun _ => ?_))
    rw [not_dec hi22, beq_not]
    repeat (first | refine run_S ?_ | refine w_box (fun _ => ?_) | refine w_al (fun _ => ?_))
    rw [not_dec hi25, beq_not]
    repeat (first | refine run_S ?_ | refine w_box (fun _ => ?_) | refine w_al (fun _ => ?_))
    cases A
    · repeat (first | refine run_S ?_ | refine w_box (fun _ => ?_) | refine w_al (fun _ => ?_))
      rw [not_dec hi27, show decide (Vld ra ca na ∧ (nx : Int) = ca) = false from decide_eq_false fun h => absurd (hA'.2 h.1) (by decide)]
      repeat (first | refine run_S ?_ | refine w_box (fun _ => ?_) | refine w_al (fun _ => ?_))
      exact sk_cut (E' := [(2, .slice px nx cx), (3, .pointer (some ⟨b3, 0, none⟩)), (4, .pointer (some ⟨b4, 0, none⟩)), (7, .bool false), (8, .bool B), (10, .int .i64 (cod (Vld ra ca na ∧ Vld rb cb nb ∧ ra = rb ∧ ca = cb))), (12, .int .i64 (cod (Vld ra ca na ∧ Vld rb cb nb ∧ ra = rb ∧ ca = cb))), (14, .int .i64 (cod (Vld ra ca na ∧ Vld rb cb nb ∧ ca = rb))), (17, .int .i64 (cod (Vld ra ca na))), (19, .int .i64 (cod (Vld ra ca na))), (22, .int .i64 (cod (Vld ra ca na))), (24, .int .i64 (cod (Vld ra ca na))), (26, .int .i64 (cod (Vld ra ca na))), (29, .bool (decide (Vld ra ca na ∧ ra = ca))), (31, .int .i64 (cod (Vld ra ca na ∧ ra = ca))), (33, .int .i64 (if Vld ra ca na ∧ ra = ca then 2 else 4)), (35, .int .i64 e22), (37, .int .i64 (cod (Vld ra ca na ∧ ra = ca))), (39, .int .i64 (cod (Vld ra ca na ∧ ra = ca))), (43, .int .i64 e25), (45, .int .i64 (cod (Vld ra ca na ∧ (nx : Int) = ra))), (47, .int .i64 e27)]) ⟨rfl, rfl, rfl, rfl, rfl, rfl, rfl, rfl, rfl, rfl, rfl, rfl, rfl, rfl, rfl, rfl, rfl, rfl, rfl, rfl, rfl, rfl, trivial⟩ ⟨trivial, rfl, uc, rfl⟩
    repeat (first | refine run_S ?_ | refine w_box (fun _ => ?_) | refine w_al (fun _ => ?_))
    rw [not_dec hi27, show decide (Vld ra ca na ∧ (nx : Int) = ca) = dec ((nx : Int) = ca) from (bool_iff ⟨fun h => ⟨hA'.1 rfl, of_dec h⟩, fun h => dec_true h.2⟩).symm, beq_not]
    repeat (first | refine run_S ?_ | refine w_box (fun _ => ?_) | refine w_al (fun _ => ?_))
    exact sk_cut (E' := [(2, .slice px nx cx), (3, .pointer (some ⟨b3, 0, none⟩)), (4, .pointer (some ⟨b4, 0, none⟩)), (7, .bool true), (8, .bool B), (10, .int .i64 (cod (Vld ra ca na ∧ Vld rb cb nb ∧ ra = rb ∧ ca = cb))), (12, .int .i64 (cod (Vld ra ca na ∧ Vld rb cb nb ∧ ra = rb ∧ ca = cb))), (14, .int .i64 (cod (Vld ra ca na ∧ Vld rb cb nb ∧ ca = rb))), (17, .int .i64 (cod (Vld ra ca na))), (19, .int .i64 (cod (Vld ra ca na))), (22, .int .i64 (cod (Vld ra ca na))), (24, .int .i64 (cod (Vld ra ca na))), (26, .int .i64 (cod (Vld ra ca na))), (29, .bool (decide (Vld ra ca na ∧ ra = ca))), (31, .int .i64 (cod (Vld ra ca na ∧ ra = ca))), (33, .int .i64 (if Vld ra ca na ∧ ra = ca then 2 else 4)), (35, .int .i64 e22), (37, .int .i64 (cod (Vld ra ca na ∧ ra = ca))), (39, .int .i64 (cod (Vld ra ca na ∧ ra = ca))), (43, .int .i64 e25), (45, .int .i64 (cod (Vld ra ca na ∧ (nx : Int) = ra))), (47, .int .i64 e27)]) ⟨rfl, rfl, rfl, rfl, rfl, rfl, rfl, rfl, rfl, rfl, rfl, rfl, rfl, rfl, rfl, rfl, rfl, rfl, rfl, rfl, rfl, rfl, trivial⟩ ⟨trivial, rfl, uc, rfl⟩
  rintro E U29 M' ⟨-, rfl, hU29, rfl⟩
  repeat (first | refine run_S ?_ | refine w_box (fun _ => ?_) | refine w_al (fun _ => ?_))
  refine sl_bslice (vs := [.int .i64 (cod (Vld ra ca na ∧ Vld rb cb nb ∧ ra = rb ∧ ca = cb)), .int .i64 (cod (Vld ra ca na ∧ Vld rb cb nb ∧ ra = rb ∧ ca = cb)), .int .i64 (cod (Vld ra ca na ∧ Vld rb cb nb ∧ ca = rb)), .int .i64 (cod (Vld ra ca na)), .int .i64 (cod (Vld ra ca na)), .int .i64 (cod (Vld ra ca na)), .int .i64 (cod (Vld ra ca na)), .int .i64 (cod (Vld ra ca na)), .int .i64 (cod (Vld ra ca na ∧ ra = ca)), .int .i64 (cod (Vld ra ca na ∧ ra = ca)), .int .i64 (cod (Vld ra ca na ∧ ra = ca)), .int .i64 (cod (Vld ra ca na ∧ (nx : Int) = ra))]) sym rfl rfl rfl rfl rfl rfl (all_size rfl) rfl rfl rfl rfl rfl rfl (fun be => ?_)
  have hre := (RowO.mk (e := 28) (s := 1) (b := be) (n := 12) (vs := [.int .i64 (cod (Vld ra ca na ∧ Vld rb cb nb ∧ ra = rb ∧ ca = cb)), .int .i64 (cod (Vld ra ca na ∧ Vld rb cb nb ∧ ra = rb ∧ ca = cb)), .int .i64 (cod (Vld ra ca na ∧ Vld rb cb nb ∧ ca = rb)), .int .i64 (cod (Vld ra ca na)), .int .i64 (cod (Vld ra ca na)), .int .i64 (cod (Vld ra ca na)), .int .i64 (cod (Vld ra ca na)), .int .i64 (cod (Vld ra ca na)), .int .i64 (cod (Vld ra ca na ∧ ra = ca)), .int .i64 (cod (Vld ra ca na ∧ ra = ca)), .int .i64 (cod (Vld ra ca na ∧ ra = ca)), .int .i64 (cod (Vld ra ca na ∧ (nx : Int) = ra))]) rfl (all_size rfl) (by omega)).at (U := U29) (M := [(be, .arr [.int .i64 (cod (Vld ra ca na ∧ Vld rb cb nb ∧ ra = rb ∧ ca = cb)), .int .i64 (cod (Vld ra ca na ∧ Vld rb cb nb ∧ ra = rb ∧ ca = cb)), .int .i64 (cod (Vld ra ca na ∧ Vld rb cb nb ∧ ca = rb)), .int .i64 (cod (Vld ra ca na)), .int .i64 (cod (Vld ra ca na)), .int .i64 (cod (Vld ra ca na)), .int .i64 (cod (Vld ra ca na)), .int .i64 (cod (Vld ra ca na)), .int .i64 (cod (Vld ra ca na ∧ ra = ca)), .int .i64 (cod (Vld ra ca na ∧ ra = ca)), .int .i64 (cod (Vld ra ca na ∧ ra = ca)), .int .i64 (cod (Vld ra ca na ∧ (nx : Int) = ra))], 28)]) (List.Sublist.refl _)
  have hel : ∀ v ∈ ([.int .i64 (cod (Vld ra ca na ∧ Vld rb cb nb ∧ ra = rb ∧ ca = cb)), .int .i64 (cod (Vld ra ca na ∧ Vld rb cb nb ∧ ra = rb ∧ ca = cb)), .int .i64 (cod (Vld ra ca na ∧ Vld rb cb nb ∧ ca = rb)), .int .i64 (cod (Vld ra ca na)), .int .i64 (cod (Vld ra ca na)), .int .i64 (cod (Vld ra ca na)), .int .i64 (cod (Vld ra ca na)), .int .i64 (cod (Vld ra ca na)), .int .i64 (cod (Vld ra ca na ∧ ra = ca)), .int .i64 (cod (Vld ra ca na ∧ ra = ca)), .int .i64 (cod (Vld ra ca na ∧ ra = ca)), .int .i64 (cod (Vld ra ca na ∧ (nx : Int) = ra))] : List Value), ∃ e : Int, v = .int .i64 e ∧ (e = 0 ∨ e = 4) := fun v hv => by
    simp only [List.mem_cons, List.not_mem_nil, or_false] at hv
    rcases hv with rfl | rfl | rfl | rfl | rfl | rfl | rfl | rfl | rfl | rfl | rfl | rfl <;> exact ⟨_, rfl, cod_or⟩
  generalize ([.int .i64 (cod (Vld ra ca na ∧ Vld rb cb nb ∧ ra = rb ∧ ca = cb)), .int .i64 (cod (Vld ra ca na ∧ Vld rb cb nb ∧ ra = rb ∧ ca = cb)), .int .i64 (cod (Vld ra ca na ∧ Vld rb cb nb ∧ ca = rb)), .int .i64 (cod (Vld ra ca na)), .int .i64 (cod (Vld ra ca na)), .int .i64 (cod (Vld ra ca na)), .int .i64 (cod (Vld ra ca na)), .int .i64 (cod (Vld ra ca na)), .int .i64 (cod (Vld ra ca na ∧ ra = ca)), .int .i64 (cod (Vld ra ca na ∧ ra = ca)), .int .i64 (cod (Vld ra ca na ∧ ra = ca)), .int .i64 (cod (Vld ra ca na ∧ (nx : Int) = ra))] : List Value) = ll at hre hel ⊢
  repeat (first | refine run_S ?_ | refine w_box (fun _ => ?_) | refine w_al (fun _ => ?_))
  refine st_loop (fun z E U' M' => ∃ (i : Nat), i ≤ 12 ∧ E = [(49, .int .i64 (i : Int)), (48, .slice (some ⟨be, 0, none⟩) 12 12), (29, .bool (decide (Vld ra ca na ∧ ra = ca))), (33, .int .i64 (if Vld ra ca na ∧ ra = ca then 2 else 4))] ∧ ULe U29 U' ∧ M' = [(be, .arr ll, 28)] ++ ((b4, .var (.agg #[.int .i64 rb, .int .i64 cb, .slice pb nb ccb]), TM) :: (b3, .var (.agg #[.int .i64 ra, .int .i64 ca, .slice pa na cca]), TM) :: M) ∧ z = 12 - i) (n0 := 12 - 0) (E0 := [(49, .int .i64 ((0 : Nat) : Int)), (48, .slice (some ⟨be, 0, none⟩) 12 12), (29, .bool (decide (Vld ra ca na ∧ ra = ca))), (33, .int .i64 (if Vld ra ca na ∧ ra = ca then 2 else 4))]) ⟨rfl, rfl, rfl, rfl, trivial⟩ ⟨0, by omega, rfl, uc, rfl, rfl⟩ ?_
  rintro z E U30 M' ⟨i, hi, rfl, hU30, rfl, rfl⟩
  try refine run_s ?_
  refine st_dec rfl (fun h => ?_) (fun h => ?_)
  · have hi12 : i < 12 := by omega
    have rl := hre.up (U' := U30) (M' := [(be, .arr ll, 28)] ++ ((b4, .var (.agg #[.int .i64 rb, .int .i64 cb, .slice pb nb ccb]), TM) :: (b3, .var (.agg #[.int .i64 ra, .int .i64 ca, .slice pa na cca]), TM) :: M)) uc (List.sublist_append_left _ _)
    obtain ⟨v1, hv1⟩ := rl.at hi12
    obtain ⟨e1, rfl, he1⟩ := hel v1 (List.mem_of_getElem? hv1)
    repeat (first | refine run_S ?_ | refine w_box (fun _ => ?_) | refine w_al (fun _ => ?_))
    refine sl_y (yl_index sym rfl rfl rfl rfl rfl rfl (rl.lt hv1) (rl.get _ _ hv1).1) rfl rfl rfl rfl ?_; refine sl_y (yl_loadR1 sym rfl rfl rfl rfl rl hv1 rfl) rfl rfl rfl rfl ?_
    repeat (first | refine run_S ?_ | refine w_box (fun _ => ?_) | refine w_al (fun _ => ?_))
    refine sl_gdec rfl rfl (fun h1 => ?_) (fun h1 => ?_)
    · repeat (first | refine run_S ?_ | refine w_box (fun _ => ?_) | refine w_al (fun _ => ?_))
      refine sl_y (yl_index sym rfl rfl rfl rfl rfl rfl (rl.lt hv1) (rl.get _ _ hv1).1) rfl rfl rfl rfl ?_; refine sl_y (yl_loadR1 sym rfl rfl rfl rfl rl hv1 rfl) rfl rfl rfl rfl ?_
      repeat (first | refine run_S ?_ | refine w_box (fun _ => ?_) | refine w_al (fun _ => ?_))
      refine st_ne rfl (fun h2 => by omega) (fun h2 => ?_)
      repeat (first | refine run_S ?_ | refine w_box (fun _ => ?_) | refine w_al (fun _ => ?_))
      exact sk_again (E' := [(49, .int .i64 ((i : Int) + 1)), (48, .slice (some ⟨be, 0, none⟩) 12 12), (29, .bool (decide (Vld ra ca na ∧ ra = ca))), (33, .int .i64 (if Vld ra ca na ∧ ra = ca then 2 else 4))]) (m := 12 - (i + 1)) ⟨rfl, rfl, rfl, rfl, trivial⟩ (by omega) ⟨i + 1, by omega, rfl, uc, rfl, rfl⟩
    · repeat (first | refine run_S ?_ | refine w_box (fun _ => ?_) | refine w_al (fun _ => ?_))
      exact sk_again (E' := [(49, .int .i64 ((i : Int) + 1)), (48, .slice (some ⟨be, 0, none⟩) 12 12), (29, .bool (decide (Vld ra ca na ∧ ra = ca))), (33, .int .i64 (if Vld ra ca na ∧ ra = ca then 2 else 4))]) (m := 12 - (i + 1)) ⟨rfl, rfl, rfl, rfl, trivial⟩ (by omega) ⟨i + 1, by omega, rfl, uc, rfl, rfl⟩
  · repeat (first | refine run_S ?_ | refine w_box (fun _ => ?_) | refine w_al (fun _ => ?_))
    by_cases hq : Vld ra ca na ∧ ra = ca
    · rw [decide_eq_true hq]
      repeat (first | refine run_S ?_ | refine w_box (fun _ => ?_) | refine w_al (fun _ => ?_))
      exact sk_ret [] sym rfl (.cons (.tmp rfl) .nil) uc sb (.inl rfl) rfl
    · rw [decide_eq_false hq, if_neg hq]
      repeat (first | refine run_S ?_ | refine w_box (fun _ => ?_) | refine w_al (fun _ => ?_))
      exact sk_ret [] sym rfl (.cons (.tmp rfl) .nil) uc sb (.inl rfl) (by show Value.bool _ = _; rw [dec_true rfl])

end Go.Proofs.Ytcfgogamamdipaa
