/- Walks of arith and of its reference: residues, primes, inverses modulo primes. -/
import Derived.Test.YtpigpikhjlmdoaaM18
import Derived.Test.YtpigpikhjlmdoaaCl
namespace Go.Proofs.Ytpigpikhjlmdoaa
open Go.Hp
open Go.Fq (Pm Fp Prm)
variable {G : World} {U : UH} {M : MH}

/-- The remainder towards nought, made not negative. -/
theorem tmod_fix {z m : Int} (hm : 0 < m) : (z.tmod m < 0 → z.tmod m + m = z % m) ∧ (¬ z.tmod m < 0 → z.tmod m = z % m) := by
  have h1 := Int.emod_nonneg z (show m ≠ 0 by omega)
  have h2 := Int.emod_lt_of_pos z hm
  have h3 := Int.tmod_eq_emod (a := z) (b := m)
  split at h3
  · omega
  · have h4 : ((m.natAbs : Nat) : Int) = m := by omega
    omega
theorem tmod_bd {z m : Int} (hm : 0 < m) : -m ≤ z.tmod m ∧ z.tmod m < m := by
  have h1 := Int.emod_nonneg z (show m ≠ 0 by omega)
  have h2 := Int.emod_lt_of_pos z hm
  obtain ⟨h3, h4⟩ := tmod_fix (z := z) hm
  rcases Int.lt_or_le (z.tmod m) 0 with h | h
  · have := h3 h; omega
  · have := h4 (by omega); omega

theorem aResidue_ct {z m : Int} (hm : 0 < m) (hm2 : m ≤ 9223372036854775807) :
    Ct Try.prog 122 [.int .i64 z, .int .i64 m] G U M fun v U' D => v = .int .i64 (z % m) ∧ U = U' ∧ D = [] := by
  obtain ⟨h1, h2⟩ := tmod_fix (z := z) hm
  obtain ⟨h3, h4⟩ := tmod_bd (z := z) hm
  refine ct_of_st Try.func122 rfl rfl rfl rfl ?_
  repeat (first | refine run_S ?_ | refine w_box (fun _ => ?_) | refine w_al (fun _ => ?_))
  refine sl_y (yl_rem (k := .i64) (a := z) (b := m) rfl rfl rfl (by omega)) rfl rfl rfl rfl ?_
  repeat (first | refine run_S ?_ | refine w_box (fun _ => ?_) | refine w_al (fun _ => ?_))
  refine st_dec rfl (fun h => ?_) (fun h => ?_)
  · repeat (first | refine run_S ?_ | refine w_box (fun _ => ?_) | refine w_al (fun _ => ?_))
    exact sk_ret [] sym rfl (.cons (.tmp rfl) .nil) (ULe.refl _) sb (.inl rfl) ⟨by rw [h1 h]; rfl, rfl, rfl⟩
  · repeat (first | refine run_S ?_ | refine w_box (fun _ => ?_) | refine w_al (fun _ => ?_))
    exact sk_ret [] sym rfl (.cons (.tmp rfl) .nil) (ULe.refl _) sb (.inl rfl) ⟨by rw [h2 h]; rfl, rfl, rfl⟩
theorem fResidue_ct {z m : Int} (hm : 0 < m) (hm2 : m ≤ 9223372036854775807) :
    Ct Try.prog 99 [.int .i64 z, .int .i64 m] G U M fun v U' D => v = .int .i64 (z % m) ∧ U = U' ∧ D = [] := by
  obtain ⟨h1, h2⟩ := tmod_fix (z := z) hm
  obtain ⟨h3, h4⟩ := tmod_bd (z := z) hm
  refine ct_of_st Try.func99 rfl rfl rfl rfl ?_
  repeat (first | refine run_S ?_ | refine w_box (fun _ => ?_) | refine w_al (fun _ => ?_))
  refine sl_y (yl_rem (k := .i64) (a := z) (b := m) rfl rfl rfl (by omega)) rfl rfl rfl rfl ?_
  repeat (first | refine run_S ?_ | refine w_box (fun _ => ?_) | refine w_al (fun _ => ?_))
  refine st_dec rfl (fun h => ?_) (fun h => ?_)
  · repeat (first | refine run_S ?_ | refine w_box (fun _ => ?_) | refine w_al (fun _ => ?_))
    exact sk_ret [] sym rfl (.cons (.tmp rfl) .nil) (ULe.refl _) sb (.inl rfl) ⟨by rw [h1 h]; rfl, rfl, rfl⟩
  · repeat (first | refine run_S ?_ | refine w_box (fun _ => ?_) | refine w_al (fun _ => ?_))
    exact sk_ret [] sym rfl (.cons (.tmp rfl) .nil) (ULe.refl _) sb (.inl rfl) ⟨by rw [h2 h]; rfl, rfl, rfl⟩

/-- Is it prime? -/
noncomputable def isP (z : Int) : Bool := @decide (0 ≤ z ∧ Prm z.toNat) (Classical.propDecidable _)
theorem isP_iff {z : Int} : isP z = true ↔ 0 ≤ z ∧ Prm z.toNat := by unfold isP; exact @decide_eq_true_iff _ (Classical.propDecidable _)
theorem isP_no {z : Int} (h : ¬ (0 ≤ z ∧ Prm z.toNat)) : isP z = false := by
  cases hb : isP z with
  | false => rfl
  | true => exact absurd (isP_iff.1 hb) h

theorem aprime_ct {z : Int} (hz : z ≤ 2147483647) :
    Ct Try.prog 119 [.int .i64 z] G U M fun v U' D => v = .bool (isP z) ∧ U = U' ∧ D = [] := by
  refine ct_of_st Try.func119 rfl rfl rfl rfl ?_
  repeat (first | refine run_S ?_ | refine w_box (fun _ => ?_) | refine w_al (fun _ => ?_))
  refine st_dec rfl (fun h => ?_) (fun h => ?_)
  · repeat (first | refine run_S ?_ | refine w_box (fun _ => ?_) | refine w_al (fun _ => ?_))
    exact sk_ret [] sym rfl (.cons (.tmp rfl) .nil) (ULe.refl _) sb (.inl rfl) ⟨by rw [isP_no (fun h2 => by have := h2.2.two; omega)]; rfl, rfl, rfl⟩
  obtain ⟨n, rfl⟩ : ∃ n : Nat, z = (n : Int) := ⟨z.toNat, by omega⟩
  have hP : isP (n : Int) = true ↔ Prm n := by rw [isP_iff, Int.toNat_natCast]; exact ⟨fun h => h.2, fun h => ⟨by omega, h⟩⟩
  repeat (first | refine run_S ?_ | refine w_box (fun _ => ?_) | refine w_al (fun _ => ?_))
  try refine st_anti (M' := M) (ULe.refl _) sbk ?_
  refine st_loop (fun z E U' M' => ∃ (d : Nat), 2 ≤ d ∧ d ≤ n + 1 ∧ (∀ k, 2 ≤ k → k < d → n % k ≠ 0) ∧ U = U' ∧ E = [(3, .int .i64 (d : Int)), (0, .int .i64 (n : Int))] ∧ ULe U U' ∧ M' = M ∧ z = n + 2 - d) (n0 := n + 2 - 2) (E0 := [(3, .int .i64 ((2 : Nat) : Int)), (0, .int .i64 (n : Int))]) ⟨rfl, rfl, trivial⟩ ⟨2, Nat.le_refl 2, by omega, (fun k h1 h2 => absurd h1 (by omega)), rfl, rfl, uc, rfl, rfl⟩ ?_
  rintro z E U1 M' ⟨d, hd2, hdn, hno, rfl, rfl, hU1, rfl, rfl⟩
  have hdd : d * d ≤ 2147483648 * 2147483648 := Nat.mul_le_mul (by omega) (by omega)
  have hcast : (d : Int) * (d : Int) = ((d * d : Nat) : Int) := (Int.natCast_mul d d).symm
  have hbd : 0 ≤ (d : Int) * (d : Int) ∧ (d : Int) * (d : Int) ≤ 4611686018427387904 := by omega
  try refine run_s ?_
  refine st_dec rfl (fun h1 => ?_) (fun h1 => ?_)
  · have hdl : d ≤ n := by
      have := Nat.mul_le_mul_right d (show 1 ≤ d by omega)
      omega
    try refine run_s ?_
    refine sl_y (yl_remN (m := n) (n := d) rfl rfl rfl rfl rfl (by simp only [kmax]; omega) (by omega) rfl) rfl rfl rfl rfl ?_
    try refine run_s ?_
    refine st_eq rfl (fun h2 => ?_) (fun h2 => ?_)
    · try refine run_s ?_
      have hn : isP (n : Int) = false := isP_no fun hp => (Fq.prm_iff.1 hp.2).2 d hd2 (by rw [Int.toNat_natCast]; omega) (by rw [Int.toNat_natCast]; omega)
      exact sk_ret [] sym rfl (.cons (.tmp rfl) .nil) (ULe.refl _) sb (.inl rfl) ⟨by rw [hn]; rfl, rfl, rfl⟩
    · try refine run_s ?_
      have hno2 : ∀ k, 2 ≤ k → k < d + 1 → n % k ≠ 0 := fun k h3 h4 => by
        rcases Nat.lt_or_eq_of_le (Nat.le_of_lt_succ h4) with h5 | h5
        · exact hno k h3 h5
        · subst h5; omega
      exact sk_again (E' := [(3, .int .i64 ((d : Int) + 1)), (0, .int .i64 (n : Int))]) (m := n + 2 - (d + 1)) ⟨rfl, rfl, trivial⟩ (by omega) ⟨d + 1, by omega, by omega, hno2, rfl, rfl, uc, rfl, rfl⟩
  · try refine run_s ?_
    have hp : isP (n : Int) = true := hP.2 (Fq.prm_iff.2 ⟨by omega, fun k h3 h4 => by
      rcases Nat.lt_or_ge k d with h5 | h5
      · exact hno k h3 h5
      · have := Nat.mul_le_mul h5 h5; omega⟩)
    exact sk_ret [] sym rfl (.cons (.tmp rfl) .nil) (ULe.refl _) sb (.inl rfl) ⟨by rw [hp]; rfl, rfl, rfl⟩

theorem aIsPrime_ct {z : Int} (h0 : z ≤ 2147483647) :
    Ct Try.prog 115 [.int .i64 z] G U M fun v U' D => v = .tuple #[.bool (isP z), .int .i64 0] ∧ U = U' ∧ D = [] := by
  refine ct_of_st Try.func115 rfl rfl rfl rfl ?_
  repeat (first | refine run_S ?_ | refine w_box (fun _ => ?_) | refine w_al (fun _ => ?_))
  refine st_dec rfl (fun h => absurd h (by omega)) (fun h => ?_)
  repeat (first | refine run_S ?_ | refine w_box (fun _ => ?_) | refine w_al (fun _ => ?_))
  refine sl_call rfl rfl rfl rfl rfl rfl (fun _ => aprime_ct (z := z) h0) ?_
  rintro v U' D hU ⟨rfl, rfl, rfl⟩
  repeat (first | refine run_S ?_ | refine w_box (fun _ => ?_) | refine w_al (fun _ => ?_))
  exact sk_ret [] sym rfl (.cons (.tmp rfl) (.cons (.tmp rfl) .nil)) (ULe.refl _) sb (.inl rfl) ⟨rfl, rfl, rfl⟩

/-- May it be a modulus? -/
noncomputable def modP (z : Int) : Bool := if z ≤ 65521 then isP z else false
theorem fprime_ct {z : Int} :
    Ct Try.prog 97 [.int .i64 z] G U M fun v U' D => v = .bool (modP z) ∧ U = U' ∧ D = [] := by
  refine ct_of_st Try.func97 rfl rfl rfl rfl ?_
  repeat (first | refine run_S ?_ | refine w_box (fun _ => ?_) | refine w_al (fun _ => ?_))
  refine sl_gdec rfl rfl (fun h1 => ?_) (fun h1 => ?_)
  · repeat (first | refine run_S ?_ | refine w_box (fun _ => ?_) | refine w_al (fun _ => ?_))
    exact sk_ret [] sym rfl (.cons (.tmp rfl) .nil) (ULe.refl _) sb (.inl rfl) ⟨by
      unfold modP
      rw [isP_no (fun h2 => by have := h2.2.two; omega)]
      split <;> rfl, rfl, rfl⟩
  · repeat (first | refine run_S ?_ | refine w_box (fun _ => ?_) | refine w_al (fun _ => ?_))
    refine st_dec rfl (fun h2 => ?_) (fun h2 => ?_)
    · repeat (first | refine run_S ?_ | refine w_box (fun _ => ?_) | refine w_al (fun _ => ?_))
      exact sk_ret [] sym rfl (.cons (.tmp rfl) .nil) (ULe.refl _) sb (.inl rfl) ⟨by unfold modP; rw [if_neg (by omega)]; rfl, rfl, rfl⟩
    · repeat (first | refine run_S ?_ | refine w_box (fun _ => ?_) | refine w_al (fun _ => ?_))
      refine sl_call rfl rfl rfl rfl rfl rfl (fun _ => aIsPrime_ct (z := z) (by omega)) ?_
      rintro v U' D hU ⟨rfl, rfl, rfl⟩
      repeat (first | refine run_S ?_ | refine w_box (fun _ => ?_) | refine w_al (fun _ => ?_))
      exact sk_ret [] sym rfl (.cons (.tmp rfl) .nil) (ULe.refl _) sb (.inl rfl) ⟨by unfold modP; rw [if_pos (by omega)]; rfl, rfl, rfl⟩

end Go.Proofs.Ytpigpikhjlmdoaa
