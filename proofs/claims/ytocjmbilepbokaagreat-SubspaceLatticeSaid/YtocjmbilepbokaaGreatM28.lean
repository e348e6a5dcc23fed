/- Texts of this seat's own, merged: each begins with its own remark. -/
import Derived.Test.YtocjmbilepbokaaGreatM25
import Derived.Test.YtocjmbilepbokaaGreatM27
import Derived.Test.YtocjmbilepbokaaGreatM26
import Derived.Test.YtocjmbilepbokaaGreatB103
/- The functions of matrix: what they answer to matrices that are not valid, and to sizes that do not fit. -/
namespace Go.Proofs.YtocjmbilepbokaaGreat
open Go.Hp
variable {G : World} {U U' : UH} {M M' : MH}

theorem _root_.Go.Hp.Ct.forget {P : Program} {f : Nat} {args : List Value} {R : Value → UH → MH → Prop} (h : Ct P f args G U M R) : Ct P f args G U M fun v U' D => D = [] ∧ ∃ D', R v U' D' :=
  ⟨h.callable, fun w hw => (h.calls w hw).mono fun _ _ ⟨v, U', D, h1, h2, h3, h4⟩ => ⟨v, U', [], h1, h2, h3.anti (ULe.refl _) (List.sublist_append_right _ _), rfl, D, h4⟩⟩

/-- A matrix, a fraction, a slice and so on beside an error. -/
def OutM (e : Int) (v : Value) : Prop := ∃ (r c : Int) (p : Option Addr) (n cc : Nat), v = .tuple #[.agg #[.int .i64 r, .int .i64 c, .slice p n cc], .int .i64 e]
def OutQ (e : Int) (v : Value) : Prop := ∃ x : QV, v = .tuple #[x.v, .int .i64 e]
def OutS (e : Int) (v : Value) : Prop := ∃ (p : Option Addr) (n c : Nat), v = .tuple #[.slice p n c, .int .i64 e]
def OutE (e : Int) (v : Value) : Prop := ∃ (r c : Int) (p : Option Addr) (n cc : Nat) (p2 : Option Addr) (n2 c2 : Nat), v = .tuple #[.agg #[.int .i64 r, .int .i64 c, .slice p n cc], .slice p2 n2 c2, .int .i64 e]
def OutT (e : Int) (v : Value) : Prop := ∃ a b c : Value, v = .tuple #[a, b, c, .int .i64 e]
def OutI (e : Int) (v : Value) : Prop := ∃ a : Value, v = .tuple #[a, .int .i64 e]
theorem OutM.of {r c e : Int} {vC : Value} {ok : UH → Value → Rat → Prop} {n : Nat} {f : Nat → Rat} {D : MH} {U : UH} (h : ∃ a, vC = .agg #[.int .i64 r, .int .i64 c, a] ∧ (Ls ok 4 n U D a f ∨ Lo ok TR 4 n U D a f)) : OutM e (.tuple #[vC, .int .i64 e]) := by
  obtain ⟨_, rfl, ⟨p, c', vs, rfl, -⟩ | ⟨p, c', vs, rfl, -⟩⟩ := h <;> exact ⟨_, _, _, _, _, rfl⟩
theorem OutS.of {e : Int} {vC : Value} {ok : UH → Value → Rat → Prop} {n : Nat} {f : Nat → Rat} {D : MH} {U : UH} (h : Ls ok 4 n U D vC f) : OutS e (.tuple #[vC, .int .i64 e]) := by
  obtain ⟨p, c', vs, rfl, -⟩ := h; exact ⟨_, _, _, rfl⟩
/-- The error of a refusal. -/
def cod (p : Prop) [Decidable p] : Int := if p then 0 else 4
theorem cod_y {p : Prop} [Decidable p] (h : p) : cod p = 0 := if_pos h
theorem cod_n {p : Prop} [Decidable p] (h : ¬ p) : cod p = 4 := if_neg h

theorem mTranspose_no {r c : Int} {n cc : Nat} {p : Option Addr} (hn : n ≤ 9223372036854775807) (h : ¬ (Vld r c n)) :
    Ct Tryz.prog 95 [.agg #[.int .i64 r, .int .i64 c, .slice p n cc]] G U M fun v _ D => D = [] ∧ OutM 4 v := by
  refine ct_of_st Tryz.func95 rfl rfl rfl rfl ?_
  repeat (first | refine run_S ?_ | refine w_box (fun _ => ?_) | refine w_al (fun _ => ?_))
  refine sl_call rfl rfl rfl rfl rfl rfl (fun _ => mValid_ct (r := r) (c := c) (p := p) (cc := cc) hn) ?_
  rintro v U' D hU ⟨rfl, rfl, rfl⟩
  repeat (first | refine run_S ?_ | refine w_box (fun _ => ?_) | refine w_al (fun _ => ?_))
  rw [decide_eq_false h]
  repeat (first | refine run_S ?_ | refine w_box (fun _ => ?_) | refine w_al (fun _ => ?_))
  exact sk_ret [] sym rfl (.cons (.cell 0 rfl rfl rfl) (.cons (.tmp rfl) .nil)) uc sb (.inl rfl) ⟨rfl, _, _, _, _, _, rfl⟩

theorem mEchelon_no {r c : Int} {n cc : Nat} {p : Option Addr} (hn : n ≤ 9223372036854775807) (h : ¬ (Vld r c n)) :
    Ct Tryz.prog 78 [.agg #[.int .i64 r, .int .i64 c, .slice p n cc]] G U M fun v _ D => D = [] ∧ OutE 4 v := by
  refine ct_of_st Tryz.func78 rfl rfl rfl rfl ?_
  repeat (first | refine run_S ?_ | refine w_box (fun _ => ?_) | refine w_al (fun _ => ?_))
  refine sl_call rfl rfl rfl rfl rfl rfl (fun _ => mValid_ct (r := r) (c := c) (p := p) (cc := cc) hn) ?_
  rintro v U' D hU ⟨rfl, rfl, rfl⟩
  repeat (first | refine run_S ?_ | refine w_box (fun _ => ?_) | refine w_al (fun _ => ?_))
  rw [decide_eq_false h]
  repeat (first | refine run_S ?_ | refine w_box (fun _ => ?_) | refine w_al (fun _ => ?_))
  exact sk_ret [] sym rfl (.cons (.cell 0 rfl rfl rfl) (.cons (.tmp rfl) (.cons (.tmp rfl) .nil))) uc sb (.inl rfl) ⟨rfl, _, _, _, _, _, _, _, _, rfl⟩

theorem mKernel_no {r c : Int} {n cc : Nat} {p : Option Addr} (hn : n ≤ 9223372036854775807) (h : ¬ (Vld r c n)) :
    Ct Tryz.prog 96 [.agg #[.int .i64 r, .int .i64 c, .slice p n cc]] G U M fun v _ D => D = [] ∧ OutM 4 v := by
  refine ct_of_st Tryz.func96 rfl rfl rfl rfl ?_
  repeat (first | refine run_S ?_ | refine w_box (fun _ => ?_) | refine w_al (fun _ => ?_))
  refine sl_call rfl rfl rfl rfl rfl rfl (fun _ => mValid_ct (r := r) (c := c) (p := p) (cc := cc) hn) ?_
  rintro v U' D hU ⟨rfl, rfl, rfl⟩
  repeat (first | refine run_S ?_ | refine w_box (fun _ => ?_) | refine w_al (fun _ => ?_))
  rw [decide_eq_false h]
  repeat (first | refine run_S ?_ | refine w_box (fun _ => ?_) | refine w_al (fun _ => ?_))
  exact sk_ret [] sym rfl (.cons (.cell 0 rfl rfl rfl) (.cons (.tmp rfl) .nil)) uc sb (.inl rfl) ⟨rfl, _, _, _, _, _, rfl⟩

theorem mMul_no {ra ca rb cb : Int} {na nb cca ccb : Nat} {pa pb : Option Addr} (ha : na ≤ 9223372036854775807) (hb : nb ≤ 9223372036854775807) (h : ¬ (Vld ra ca na ∧ Vld rb cb nb ∧ ca = rb)) :
    Ct Tryz.prog 93 [.agg #[.int .i64 ra, .int .i64 ca, .slice pa na cca], .agg #[.int .i64 rb, .int .i64 cb, .slice pb nb ccb]] G U M fun v _ D => D = [] ∧ OutM 4 v := by
  refine ct_of_st Tryz.func93 rfl rfl rfl rfl ?_
  repeat (first | refine run_S ?_ | refine w_box (fun _ => ?_) | refine w_al (fun _ => ?_))
  refine sl_call rfl rfl rfl rfl rfl rfl (fun _ => mValid_ct (r := ra) (c := ca) (p := pa) (cc := cca) ha) ?_
  rintro v U' D hU ⟨rfl, rfl, rfl⟩
  repeat (first | refine run_S ?_ | refine w_box (fun _ => ?_) | refine w_al (fun _ => ?_))
  by_cases h1 : Vld ra ca na
  · rw [decide_eq_true h1]
    repeat (first | refine run_S ?_ | refine w_box (fun _ => ?_) | refine w_al (fun _ => ?_))
    refine sl_call rfl rfl rfl rfl rfl rfl (fun _ => mValid_ct (r := rb) (c := cb) (p := pb) (cc := ccb) hb) ?_
    rintro v U' D hU ⟨rfl, rfl, rfl⟩
    repeat (first | refine run_S ?_ | refine w_box (fun _ => ?_) | refine w_al (fun _ => ?_))
    by_cases h2 : Vld rb cb nb
    · rw [decide_eq_true h2]
      repeat (first | refine run_S ?_ | refine w_box (fun _ => ?_) | refine w_al (fun _ => ?_))
      refine st_ne rfl (fun h4 => ?_) (fun h4 => absurd ⟨h1, h2, h4⟩ h)
      repeat (first | refine run_S ?_ | refine w_box (fun _ => ?_) | refine w_al (fun _ => ?_))
      exact sk_ret [] sym rfl (.cons (.cell 0 rfl rfl rfl) (.cons (.tmp rfl) .nil)) uc sb (.inl rfl) ⟨rfl, _, _, _, _, _, rfl⟩
    · rw [decide_eq_false h2]
      repeat (first | refine run_S ?_ | refine w_box (fun _ => ?_) | refine w_al (fun _ => ?_))
      exact sk_ret [] sym rfl (.cons (.cell 0 rfl rfl rfl) (.cons (.tmp rfl) .nil)) uc sb (.inl rfl) ⟨rfl, _, _, _, _, _, rfl⟩
  · rw [decide_eq_false h1]
    repeat (first | refine run_S ?_ | refine w_box (fun _ => ?_) | refine w_al (fun _ => ?_))
    exact sk_ret [] sym rfl (.cons (.cell 0 rfl rfl rfl) (.cons (.tmp rfl) .nil)) uc sb (.inl rfl) ⟨rfl, _, _, _, _, _, rfl⟩

end Go.Proofs.YtocjmbilepbokaaGreat

/- The functions of matrix: the error that they answer. -/
namespace Go.Proofs.YtocjmbilepbokaaGreat
open Go.Hp
variable {G : World} {U U' : UH} {M M' : MH}

theorem OutE.of {r n : Nat} {vR vp : Value} {R : Nat → Nat → Rat} {p : Nat → Nat} {U : UH} (h : Vm Vq r n U vR R) (h2 : Ls Vi 1 r U [] vp p) : OutE 0 (.tuple #[vR, vp, .int .i64 0]) := by
  obtain ⟨_, rfl, p, c', vs, rfl, -⟩ := h
  obtain ⟨p2, c2, vs2, rfl, -⟩ := h2
  exact ⟨_, _, _, _, _, _, _, _, rfl⟩
theorem OutM.vm {r n : Nat} {e : Int} {vR : Value} {ok : UH → Value → Rat → Prop} {R : Nat → Nat → Rat} {U : UH} (h : Vm ok r n U vR R) : OutM e (.tuple #[vR, .int .i64 e]) := by
  obtain ⟨_, rfl, p, c', vs, rfl, -⟩ := h; exact ⟨_, _, _, _, _, rfl⟩
theorem OutM.vmo {r n : Nat} {e : Int} {vR : Value} {R : Nat → Nat → Rat} {U : UH} {D : MH} (h : Vmo r n U D vR R) : OutM e (.tuple #[vR, .int .i64 e]) := by
  obtain ⟨_, rfl, p, c', vs, rfl, -⟩ := h; exact ⟨_, _, _, _, _, rfl⟩
theorem psz_two {n : Nat} (hn : n ≤ 5) : ∀ k, k ≤ 2 → psz n 1 k ≤ 16777216 := by
  have : ∀ n, n ≤ 5 → ∀ k, k ≤ 2 → psz n 1 k ≤ 16777216 := by decide
  exact this n hn

theorem eTranspose {v : Value} {r c : Int} {n : Nat} {f : Nat → Rat} (h : Lit 5 U v r c n f) : Ct Tryz.prog 95 [v] G U M fun v _ D => D = [] ∧ OutM (cod (Vld r c n)) v := by
  by_cases hV : Vld r c n
  · obtain ⟨R, C, rfl, rfl, hR, hC, hm⟩ := h.vm hV
    skip
    have g1 := gro_small (k := 1) (n := R) (by omega) (by decide)
    obtain ⟨g2, g3⟩ := gro_one (n := R) (by omega)
    have g4 := gro_mid (k := La.gro 1 R) (n := R) (by omega) g3
    have g5 := dbl_small (W := La.gro 1 R) (k := 1) (n := R) (by omega) g3 (by decide)
    have g6 := dbl_mid (W := La.gro (La.gro 1 R) R) (k := La.dbl (La.gro 1 R) 1 R) (n := R) (by omega) (by omega) g5
    rw [cod_y hV]
    exact (mTranspose_co hm (by decide) (by omega) (by omega)).forget.mono fun _ _ _ _ ⟨h1, _, vC, h2, h3, _⟩ => ⟨h1, h2 ▸ OutM.vmo h3⟩
  · obtain ⟨hn, -, _, rfl, p, cc, vs, rfl, -⟩ := h
    rw [cod_n hV]
    exact mTranspose_no (by omega) hV

theorem eEchelon {v : Value} {r c : Int} {n : Nat} {f : Nat → Rat} (h : Lit 5 U v r c n f) : Ct Tryz.prog 78 [v] G U M fun v _ D => D = [] ∧ OutE (cod (Vld r c n)) v := by
  by_cases hV : Vld r c n
  · obtain ⟨R, C, rfl, rfl, hR, hC, hm⟩ := h.vm hV
    skip
    have g1 := gro_small (k := 1) (n := R) (by omega) (by decide)
    obtain ⟨g2, g3⟩ := gro_one (n := R) (by omega)
    have g4 := gro_mid (k := La.gro 1 R) (n := R) (by omega) g3
    have g5 := dbl_small (W := La.gro 1 R) (k := 1) (n := R) (by omega) g3 (by decide)
    have g6 := dbl_mid (W := La.gro (La.gro 1 R) R) (k := La.dbl (La.gro 1 R) 1 R) (n := R) (by omega) (by omega) g5
    rw [cod_y hV]
    exact (mEchelon_ct hm (Nat.le_refl 1) (by omega) (by omega) (by omega) (by omega)).mono fun _ _ _ _ ⟨r', R', p', vR, vp, h2, h3, h4, h5, _⟩ => ⟨h5, h2 ▸ OutE.of h3 h4⟩
  · obtain ⟨hn, -, _, rfl, p, cc, vs, rfl, -⟩ := h
    rw [cod_n hV]
    exact mEchelon_no (by omega) hV

theorem eKernel {v : Value} {r c : Int} {n : Nat} {f : Nat → Rat} (h : Lit 5 U v r c n f) : Ct Tryz.prog 96 [v] G U M fun v _ D => D = [] ∧ OutM (cod (Vld r c n)) v := by
  by_cases hV : Vld r c n
  · obtain ⟨R, C, rfl, rfl, hR, hC, hm⟩ := h.vm hV
    skip
    have g1 := gro_small (k := 1) (n := R) (by omega) (by decide)
    obtain ⟨g2, g3⟩ := gro_one (n := R) (by omega)
    have g4 := gro_mid (k := La.gro 1 R) (n := R) (by omega) g3
    have g5 := dbl_small (W := La.gro 1 R) (k := 1) (n := R) (by omega) g3 (by decide)
    have g6 := dbl_mid (W := La.gro (La.gro 1 R) R) (k := La.dbl (La.gro 1 R) 1 R) (n := R) (by omega) (by omega) g5
    rw [cod_y hV]
    exact (mKernel_ct hm (Nat.le_refl 1) (by omega) (by omega) (by omega) (by omega) (by omega)).mono fun _ _ _ _ ⟨_, _, _, vK, h2, h3, h5, _⟩ => ⟨h5, h2 ▸ OutM.vm h3⟩
  · obtain ⟨hn, -, _, rfl, p, cc, vs, rfl, -⟩ := h
    rw [cod_n hV]
    exact mKernel_no (by omega) hV

theorem eMul {va vb : Value} {ra ca rb cb : Int} {na nb : Nat} {fa fb : Nat → Rat} (ha : Lit 5 U va ra ca na fa) (hb : Lit 5 U vb rb cb nb fb) : Ct Tryz.prog 93 [va, vb] G U M fun v _ D => D = [] ∧ OutM (cod (Vld ra ca na ∧ Vld rb cb nb ∧ ca = rb)) v := by
  by_cases hV : Vld ra ca na ∧ Vld rb cb nb ∧ ca = rb
  · rw [cod_y hV]
    obtain ⟨R, C, rfl, rfl, hR, hC, hm⟩ := ha.vm hV.1
    obtain ⟨R', C', rfl, rfl, hR', hC', hm'⟩ := hb.vm hV.2.1
    obtain rfl : C = R' := by omega
    exact (mMul_ct hm hm' (Nat.le_refl 1) (by omega) (by omega) (by omega) (by omega)).mono fun _ _ _ _ ⟨vC, h2, h3, h4⟩ => ⟨h4, h2 ▸ OutM.vm h3⟩
  · rw [cod_n hV]
    obtain ⟨hn, -, _, rfl, p, cc, vs, rfl, -⟩ := ha
    obtain ⟨hn', -, _, rfl, p', cc', vs', rfl, -⟩ := hb
    exact mMul_no (by omega) (by omega) hV

end Go.Proofs.YtocjmbilepbokaaGreat

/- The law of layer 9 on refusals. -/
namespace Go.Proofs.YtocjmbilepbokaaGreat
open Go.Hp
variable {G : World} {U U' : UH} {M M' : MH}

theorem cod_dec {p : Prop} [Decidable p] : dec (cod p = 0) = decide p := by
  rw [dec_eq]
  by_cases h : p
  · rw [cod_y h, decide_eq_true h]; rfl
  · rw [cod_n h, decide_eq_false h]; rfl
theorem cod_two {p : Prop} [Decidable p] : dec ((if p then (2 : Int) else 4) = 2) = decide p := by
  rw [dec_eq]
  by_cases h : p
  · rw [if_pos h, decide_eq_true h]; rfl
  · rw [if_neg h, decide_eq_false h]; rfl
theorem not_dec {e : Int} {p : Prop} [Decidable p] (h : e = 4 ↔ ¬ p) : dec (e = 4) = !decide p := by
  rw [dec_eq]
  by_cases hp : p
  · rw [decide_eq_true hp, decide_eq_false fun h4 => h.1 h4 hp]; rfl
  · rw [decide_eq_false hp, decide_eq_true (h.2 hp)]; rfl
theorem beq_not (b : Bool) : (b == !b) = false := by cases b <;> rfl
theorem cod_or {p : Prop} [Decidable p] : cod p = 0 ∨ cod p = 4 := by
  by_cases h : p
  · exact .inl (cod_y h)
  · exact .inr (cod_n h)
theorem bool_iff {b : Bool} {p : Prop} [Decidable p] (h : b = true ↔ p) : b = decide p := by
  cases b
  · exact (decide_eq_false fun hp => absurd (h.2 hp) (by decide)).symm
  · exact (decide_eq_true (h.1 rfl)).symm

theorem Lit.up {most n : Nat} {v : Value} {r c : Int} {f : Nat → Rat} (h : Lit most U v r c n f) (hU : ULe U U') : Lit most U' v r c n f := by
  obtain ⟨h1, h2, a, h3, h4⟩ := h
  exact ⟨h1, h2, a, h3, h4.up kept_w hU (List.Sublist.refl _)⟩

end Go.Proofs.YtocjmbilepbokaaGreat
