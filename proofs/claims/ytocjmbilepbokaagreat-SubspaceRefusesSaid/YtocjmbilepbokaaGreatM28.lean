/- Texts of this seat's own, merged: each begins with its own remark. -/
import Derived.Test.YtocjmbilepbokaaGreatM25
import Derived.Test.YtocjmbilepbokaaGreatM27
import Derived.Test.YtocjmbilepbokaaGreatM26
import Derived.Test.YtocjmbilepbokaaGreatB103
/- The functions of matrix: what they answer to matrices that are not valid, and to sizes that do not fit. -/
namespace Go.Proofs.YtocjmbilepbokaaGreat
open Go.Hp
variable {G : World} {U U' : UH} {M M' : MH}

/-- A matrix, a fraction, a slice and so on beside an error. -/
def OutM (e : Int) (v : Value) : Prop := ∃ (r c : Int) (p : Option Addr) (n cc : Nat), v = .tuple #[.agg #[.int .i64 r, .int .i64 c, .slice p n cc], .int .i64 e]
def OutQ (e : Int) (v : Value) : Prop := ∃ x : QV, v = .tuple #[x.v, .int .i64 e]
def OutS (e : Int) (v : Value) : Prop := ∃ (p : Option Addr) (n c : Nat), v = .tuple #[.slice p n c, .int .i64 e]
def OutE (e : Int) (v : Value) : Prop := ∃ (r c : Int) (p : Option Addr) (n cc : Nat) (p2 : Option Addr) (n2 c2 : Nat), v = .tuple #[.agg #[.int .i64 r, .int .i64 c, .slice p n cc], .slice p2 n2 c2, .int .i64 e]
def OutT (e : Int) (v : Value) : Prop := ∃ a b c : Value, v = .tuple #[a, b, c, .int .i64 e]
def OutI (e : Int) (v : Value) : Prop := ∃ a : Value, v = .tuple #[a, .int .i64 e]
theorem OutM.of {r c e : Int} {vC : Value} {ok : UH → Value → Rat → Prop} {n : Nat} {f : Nat → Rat} {D : MH} {U : UH} (h : ∃ a, vC = .agg #[.int .i64 r, .int .i64 c, a] ∧ (Ls ok 4 n U D a f ∨ Lo ok TR 4 n U D a f)) : OutM e (.tuple #[vC, .int .i64 e]) := by
  obtain ⟨_, rfl, ⟨p, c', vs, rfl, -⟩ | ⟨p, c', vs, rfl, -⟩⟩ := h <;> exact ⟨_, _, _, _, _, rfl⟩
theorem OutS.of {e : Int} {vC : Value} {ok : UH → Value → Rat → Prop} {n : Nat} {f : Nat → Rat} {D : MH} {U : UH} (h : Ls ok 4 n U D vC f) : OutS e (.tuple #[vC, .int .i64 e]) := by
  obtain ⟨p, c', vs, rfl, -⟩ := h; exact ⟨_, _, _, rfl⟩
/-- The error of a refusal. -/
def cod (p : Prop) [Decidable p] : Int := if p then 0 else 4
theorem mEchelon_no {r c : Int} {n cc : Nat} {p : Option Addr} (hn : n ≤ 9223372036854775807) (h : ¬ (Vld r c n)) :
    Ct Tryz.prog 78 [.agg #[.int .i64 r, .int .i64 c, .slice p n cc]] G U M fun v _ D => D = [] ∧ OutE 4 v := by
  refine ct_of_st Tryz.func78 rfl rfl rfl rfl ?_
  repeat (first | refine run_S ?_ | refine w_box (fun _ => ?_) | refine w_al (fun _ => ?_))
  refine sl_call rfl rfl rfl rfl rfl rfl (fun _ => mValid_ct (r := r) (c := c) (p := p) (cc := cc) hn) ?_
  rintro v U' D hU ⟨rfl, rfl, rfl⟩
  repeat (first | refine run_S ?_ | refine w_box (fun _ => ?_) | refine w_al (fun _ => ?_))
  rw [decide_eq_false h]
  repeat (first | refine run_S ?_ | refine w_box (fun _ => ?_) | refine w_al (fun _ => ?_))
  exact sk_ret [] sym rfl (.cons (.cell 0 rfl rfl rfl) (.cons (.tmp rfl) (.cons (.tmp rfl) .nil))) uc sb (.inl rfl) ⟨rfl, _, _, _, _, _, _, _, _, rfl⟩

theorem mMul_no {ra ca rb cb : Int} {na nb cca ccb : Nat} {pa pb : Option Addr} (ha : na ≤ 9223372036854775807) (hb : nb ≤ 9223372036854775807) (h : ¬ (Vld ra ca na ∧ Vld rb cb nb ∧ ca = rb)) :
    Ct Tryz.prog 93 [.agg #[.int .i64 ra, .int .i64 ca, .slice pa na cca], .agg #[.int .i64 rb, .int .i64 cb, .slice pb nb ccb]] G U M fun v _ D => D = [] ∧ OutM 4 v := by
  refine ct_of_st Tryz.func93 rfl rfl rfl rfl ?_
  repeat (first | refine run_S ?_ | refine w_box (fun _ => ?_) | refine w_al (fun _ => ?_))
  refine sl_call rfl rfl rfl rfl rfl rfl (fun _ => mValid_ct (r := ra) (c := ca) (p := pa) (cc := cca) ha) ?_
  rintro v U' D hU ⟨rfl, rfl, rfl⟩
  repeat (first | refine run_S ?_ | refine w_box (fun _ => ?_) | refine w_al (fun _ => ?_))
  by_cases h1 : Vld ra ca na
  · rw [decide_eq_true h1]
    repeat (first | refine run_S ?_ | refine w_box (fun _ => ?_) | refine w_al (fun _ => ?_))
    refine sl_call rfl rfl rfl rfl rfl rfl (fun _ => mValid_ct (r := rb) (c := cb) (p := pb) (cc := ccb) hb) ?_
    rintro v U' D hU ⟨rfl, rfl, rfl⟩
    repeat (first | refine run_S ?_ | refine w_box (fun _ => ?_) | refine w_al (fun _ => ?_))
    by_cases h2 : Vld rb cb nb
    · rw [decide_eq_true h2]
      repeat (first | refine run_S ?_ | refine w_box (fun _ => ?_) | refine w_al (fun _ => ?_))
      refine st_ne rfl (fun h4 => ?_) (fun h4 => absurd ⟨h1, h2, h4⟩ h)
      repeat (first | refine run_S ?_ | refine w_box (fun _ => ?_) | refine w_al (fun _ => ?_))
      exact sk_ret [] sym rfl (.cons (.cell 0 rfl rfl rfl) (.cons (.tmp rfl) .nil)) uc sb (.inl rfl) ⟨rfl, _, _, _, _, _, rfl⟩
    · rw [decide_eq_false h2]
      repeat (first | refine run_S ?_ | refine w_box (fun _ => ?_) | refine w_al (fun _ => ?_))
      exact sk_ret [] sym rfl (.cons (.cell 0 rfl rfl rfl) (.cons (.tmp rfl) .nil)) uc sb (.inl rfl) ⟨rfl, _, _, _, _, _, rfl⟩
  · rw [decide_eq_false h1]
    repeat (first | refine run_S ?_ | refine w_box (fun _ => ?_) | refine w_al (fun _ => ?_))
    exact sk_ret [] sym rfl (.cons (.cell 0 rfl rfl rfl) (.cons (.tmp rfl) .nil)) uc sb (.inl rfl) ⟨rfl, _, _, _, _, _, rfl⟩

end Go.Proofs.YtocjmbilepbokaaGreat

/- The functions of matrix: the error that they answer. -/
namespace Go.Proofs.YtocjmbilepbokaaGreat
open Go.Hp
variable {G : World} {U U' : UH} {M M' : MH}

theorem OutE.of {r n : Nat} {vR vp : Value} {R : Nat → Nat → Rat} {p : Nat → Nat} {U : UH} (h : Vm Vq r n U vR R) (h2 : Ls Vi 1 r U [] vp p) : OutE 0 (.tuple #[vR, vp, .int .i64 0]) := by
  obtain ⟨_, rfl, p, c', vs, rfl, -⟩ := h
  obtain ⟨p2, c2, vs2, rfl, -⟩ := h2
  exact ⟨_, _, _, _, _, _, _, _, rfl⟩
theorem OutM.vm {r n : Nat} {e : Int} {vR : Value} {ok : UH → Value → Rat → Prop} {R : Nat → Nat → Rat} {U : UH} (h : Vm ok r n U vR R) : OutM e (.tuple #[vR, .int .i64 e]) := by
  obtain ⟨_, rfl, p, c', vs, rfl, -⟩ := h; exact ⟨_, _, _, _, _, rfl⟩
end Go.Proofs.YtocjmbilepbokaaGreat

/- The law of layer 9 on refusals. -/
namespace Go.Proofs.YtocjmbilepbokaaGreat
open Go.Hp
variable {G : World} {U U' : UH} {M M' : MH}

theorem Lit.up {most n : Nat} {v : Value} {r c : Int} {f : Nat → Rat} (h : Lit most U v r c n f) (hU : ULe U U') : Lit most U' v r c n f := by
  obtain ⟨h1, h2, a, h3, h4⟩ := h
  exact ⟨h1, h2, a, h3, h4.up kept_w hU (List.Sublist.refl _)⟩

end Go.Proofs.YtocjmbilepbokaaGreat
