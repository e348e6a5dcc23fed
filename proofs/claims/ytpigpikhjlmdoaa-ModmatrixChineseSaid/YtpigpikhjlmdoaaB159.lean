/- Walks of modmatrix: errors; echelon forms, ranks, determinants. -/
import Derived.Test.YtpigpikhjlmdoaaB158
namespace Go.Proofs.Ytpigpikhjlmdoaa
open Go.Hp
open Go.Fq (Pm Fp Prm)
variable {G : World} {U U' : UH} {M : MH}

theorem ffits_ct {n : Int} :
    Ct Try.prog 98 [.int .i64 n] G U M fun v U' D => v = .bool (decide (0 ≤ n ∧ n ≤ 1024)) ∧ U = U' ∧ D = [] := by
  refine ct_of_st Try.func98 rfl rfl rfl rfl ?_
  repeat (first | refine run_S ?_ | refine w_box (fun _ => ?_) | refine w_al (fun _ => ?_))
  refine sl_gdec rfl rfl (fun h1 => ?_) (fun h1 => ?_)
  · repeat (first | refine run_S ?_ | refine w_box (fun _ => ?_) | refine w_al (fun _ => ?_))
    refine sk_ret [] sym rfl (.cons (.tmp rfl) .nil) (ULe.refl _) sb (.inl rfl) ⟨?_, rfl, rfl⟩
    show Value.bool (dec (n ≤ 1024)) = _
    rw [dec_eq]
    exact congrArg Value.bool (decide_eq_decide.2 ⟨fun h => ⟨by omega, h⟩, fun h => h.2⟩)
  · repeat (first | refine run_S ?_ | refine w_box (fun _ => ?_) | refine w_al (fun _ => ?_))
    exact sk_ret [] sym rfl (.cons (.tmp rfl) .nil) (ULe.refl _) sb (.inl rfl) ⟨tup_f (fun h => h1 (by omega)), rfl, rfl⟩

/-- The first error of a function with a matrix modulo z. -/
noncomputable def errF (z r c : Int) (n : Nat) : Int := if modP z = true then (if Vld r c n then 0 else 4) else 8
theorem fcheck_ct {z r c : Int} {p : Option Addr} {n cc : Nat} (_ : n ≤ 9223372036854775807) :
    Ct Try.prog 65 [.int .i64 z, .agg #[.int .i64 r, .int .i64 c, .slice p n cc]] G U M fun v U' D => v = .int .i64 (errF z r c n) ∧ U = U' ∧ D = [] := by
  refine ct_of_st Try.func65 rfl rfl rfl rfl ?_
  repeat (first | refine run_S ?_ | refine w_box (fun _ => ?_) | refine w_al (fun _ => ?_))
  refine sl_call rfl rfl rfl rfl rfl rfl (fun _ => fprime_ct (z := z)) ?_
  rintro v U' D hU ⟨rfl, rfl, rfl⟩
  repeat (first | refine run_S ?_ | refine w_box (fun _ => ?_) | refine w_al (fun _ => ?_))
  cases hP : modP z with
  | false =>
    repeat (first | refine run_S ?_ | refine w_box (fun _ => ?_) | refine w_al (fun _ => ?_))
    exact sk_ret [] sym rfl (.cons (.tmp rfl) .nil) uc sb (.inl rfl) ⟨by unfold errF; rw [hP]; rfl, rfl, rfl⟩
  | true =>
    have e1 : errF z r c n = if Vld r c n then 0 else 4 := by unfold errF; rw [hP, if_pos rfl]
    rw [e1]
    repeat (first | refine run_S ?_ | refine w_box (fun _ => ?_) | refine w_al (fun _ => ?_))
    refine sl_call rfl rfl rfl rfl rfl rfl (fun _ => ffits_ct (n := r)) ?_
    rintro v U' D hU ⟨rfl, rfl, rfl⟩
    repeat (first | refine run_S ?_ | refine w_box (fun _ => ?_) | refine w_al (fun _ => ?_))
    by_cases h1 : 0 ≤ r ∧ r ≤ 1024
    · rw [decide_eq_true h1]
      repeat (first | refine run_S ?_ | refine w_box (fun _ => ?_) | refine w_al (fun _ => ?_))
      refine sl_call rfl rfl rfl rfl rfl rfl (fun _ => ffits_ct (n := c)) ?_
      rintro v U' D hU ⟨rfl, rfl, rfl⟩
      repeat (first | refine run_S ?_ | refine w_box (fun _ => ?_) | refine w_al (fun _ => ?_))
      by_cases h2 : 0 ≤ c ∧ c ≤ 1024
      · have h3 := mul_1024 h1.1 h1.2 h2.1 h2.2
        rw [decide_eq_true h2]
        repeat (first | refine run_S ?_ | refine w_box (fun _ => ?_) | refine w_al (fun _ => ?_))
        refine st_ne rfl (fun h4 => ?_) (fun h4 => ?_)
        · repeat (first | refine run_S ?_ | refine w_box (fun _ => ?_) | refine w_al (fun _ => ?_))
          exact sk_ret [] sym rfl (.cons (.tmp rfl) .nil) uc sb (.inl rfl) ⟨by rw [if_neg (fun h => h4 h.2.2.2.2)]; rfl, rfl, rfl⟩
        · repeat (first | refine run_S ?_ | refine w_box (fun _ => ?_) | refine w_al (fun _ => ?_))
          exact sk_ret [] sym rfl (.cons (.tmp rfl) .nil) uc sb (.inl rfl) ⟨by rw [if_pos ⟨h1.1, h1.2, h2.1, h2.2, h4⟩]; rfl, rfl, rfl⟩
      · rw [decide_eq_false h2]
        repeat (first | refine run_S ?_ | refine w_box (fun _ => ?_) | refine w_al (fun _ => ?_))
        exact sk_ret [] sym rfl (.cons (.tmp rfl) .nil) uc sb (.inl rfl) ⟨by rw [if_neg (fun h => h2 ⟨h.2.2.1, h.2.2.2.1⟩)]; rfl, rfl, rfl⟩
    · rw [decide_eq_false h1]
      repeat (first | refine run_S ?_ | refine w_box (fun _ => ?_) | refine w_al (fun _ => ?_))
      exact sk_ret [] sym rfl (.cons (.tmp rfl) .nil) uc sb (.inl rfl) ⟨by rw [if_neg (fun h => h1 ⟨h.1, h.2.1⟩)]; rfl, rfl, rfl⟩
theorem errF_ok {P : Pm} {m n : Nat} (hp : P.1 ≤ 65521) (hm : m ≤ 1024) (hn : n ≤ 1024) : errF (P.1 : Int) (m : Int) (n : Int) (m * n) = 0 := by
  unfold errF modP
  rw [if_pos (show (P.1 : Int) ≤ 65521 by omega), isP_iff.2 ⟨by omega, by rw [Int.toNat_natCast]; exact P.2⟩, if_pos rfl, if_pos (vld_of hm hn)]

/-- The error of a function that asks for a square matrix. -/
noncomputable def errS (z r c : Int) (n : Nat) : Int := if errF z r c n = 0 then (if r = c then 0 else 4) else errF z r c n
/-- The reduced echelon form of a matrix modulo a prime. -/
structure EchP {P : Pm} (m n r : Nat) (A R : Nat → Nat → Fp P) (p : Nat → Nat) : Prop where
  ech : La.Ech r n R p
  same : La.Same r m n R A
  le : r ≤ m
theorem _root_.Go.La.Red.echp {P : Pm} {m n r : Nat} {A R : Nat → Nat → Fp P} {p : Nat → Nat} {d : Fp P} (h : La.Red m n n r A R p d) : EchP m n r A R p := by
  refine ⟨h.ech, La.Same.trans ⟨fun i hi => La.Sp.row (by have := h.le; omega), fun i hi => ?_⟩ h.span, h.le⟩
  rcases Nat.lt_or_ge i r with h1 | h1
  · exact La.Sp.row h1
  · exact La.Sp.zero.congr (fun _ _ _ _ => rfl) (fun j hj => (h.zero i j h1 hi hj).symm)
abbrev Ofm (P : Pm) (A : Nat → Nat → Int) : Nat → Nat → Fp P := fun i j => Fq.of P (A i j)

end Go.Proofs.Ytpigpikhjlmdoaa
