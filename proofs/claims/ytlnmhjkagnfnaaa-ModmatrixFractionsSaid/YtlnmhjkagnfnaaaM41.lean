/- Texts of this seat's own, merged: each begins with its own remark. -/
import Derived.Test.YtlnmhjkagnfnaaaM18
import Derived.Test.YtlnmhjkagnfnaaaM40
import Derived.Test.YtlnmhjkagnfnaaaVz
/- Walks of arith and of its reference: residues, primes, inverses modulo primes. -/
namespace Go.Proofs.Ytlnmhjkagnfnaaa
open Go.Hp
open Go.Fq (Pm Fp Prm)
variable {G : World} {U : UH} {M : MH}

/-- The remainder towards nought, made not negative. -/
theorem tmod_fix {z m : Int} (hm : 0 < m) : (z.tmod m < 0 → z.tmod m + m = z % m) ∧ (¬ z.tmod m < 0 → z.tmod m = z % m) := by
  have h1 := Int.emod_nonneg z (show m ≠ 0 by omega)
  have h2 := Int.emod_lt_of_pos z hm
  have h3 := Int.tmod_eq_emod (a := z) (b := m)
  split at h3
  · omega
  · have h4 : ((m.natAbs : Nat) : Int) = m := by omega
    omega
theorem tmod_bd {z m : Int} (hm : 0 < m) : -m ≤ z.tmod m ∧ z.tmod m < m := by
  have h1 := Int.emod_nonneg z (show m ≠ 0 by omega)
  have h2 := Int.emod_lt_of_pos z hm
  obtain ⟨h3, h4⟩ := tmod_fix (z := z) hm
  rcases Int.lt_or_le (z.tmod m) 0 with h | h
  · have := h3 h; omega
  · have := h4 (by omega); omega

theorem aResidue_ct {z m : Int} (hm : 0 < m) (hm2 : m ≤ 9223372036854775807) :
    Ct Try.prog 101 [.int .i64 z, .int .i64 m] G U M fun v U' D => v = .int .i64 (z % m) ∧ U = U' ∧ D = [] := by
  obtain ⟨h1, h2⟩ := tmod_fix (z := z) hm
  obtain ⟨h3, h4⟩ := tmod_bd (z := z) hm
  refine ct_of_st Try.func101 rfl rfl rfl rfl ?_
  repeat (first | refine run_S ?_ | refine w_box (fun _ => ?_) | refine w_al (fun _ => ?_))
  refine sl_y (yl_rem (k := .i64) (a := z) (b := m) rfl rfl rfl (by omega)) rfl rfl rfl rfl ?_
  repeat (first | refine run_S ?_ | refine w_box (fun _ => ?_) | refine w_al (fun _ => ?_))
  refine st_dec rfl (fun h => ?_) (fun h => ?_)
  · repeat (first | refine run_S ?_ | refine w_box (fun _ => ?_) | refine w_al (fun _ => ?_))
    exact sk_ret [] sym rfl (.cons (.tmp rfl) .nil) (ULe.refl _) sb (.inl rfl) ⟨by rw [h1 h]; rfl, rfl, rfl⟩
  · repeat (first | refine run_S ?_ | refine w_box (fun _ => ?_) | refine w_al (fun _ => ?_))
    exact sk_ret [] sym rfl (.cons (.tmp rfl) .nil) (ULe.refl _) sb (.inl rfl) ⟨by rw [h2 h]; rfl, rfl, rfl⟩
theorem fResidue_ct {z m : Int} (hm : 0 < m) (hm2 : m ≤ 9223372036854775807) :
    Ct Try.prog 77 [.int .i64 z, .int .i64 m] G U M fun v U' D => v = .int .i64 (z % m) ∧ U = U' ∧ D = [] := by
  obtain ⟨h1, h2⟩ := tmod_fix (z := z) hm
  obtain ⟨h3, h4⟩ := tmod_bd (z := z) hm
  refine ct_of_st Try.func77 rfl rfl rfl rfl ?_
  repeat (first | refine run_S ?_ | refine w_box (fun _ => ?_) | refine w_al (fun _ => ?_))
  refine sl_y (yl_rem (k := .i64) (a := z) (b := m) rfl rfl rfl (by omega)) rfl rfl rfl rfl ?_
  repeat (first | refine run_S ?_ | refine w_box (fun _ => ?_) | refine w_al (fun _ => ?_))
  refine st_dec rfl (fun h => ?_) (fun h => ?_)
  · repeat (first | refine run_S ?_ | refine w_box (fun _ => ?_) | refine w_al (fun _ => ?_))
    exact sk_ret [] sym rfl (.cons (.tmp rfl) .nil) (ULe.refl _) sb (.inl rfl) ⟨by rw [h1 h]; rfl, rfl, rfl⟩
  · repeat (first | refine run_S ?_ | refine w_box (fun _ => ?_) | refine w_al (fun _ => ?_))
    exact sk_ret [] sym rfl (.cons (.tmp rfl) .nil) (ULe.refl _) sb (.inl rfl) ⟨by rw [h2 h]; rfl, rfl, rfl⟩

/-- Is it prime? -/
noncomputable def isP (z : Int) : Bool := @decide (0 ≤ z ∧ Prm z.toNat) (Classical.propDecidable _)
theorem isP_iff {z : Int} : isP z = true ↔ 0 ≤ z ∧ Prm z.toNat := by unfold isP; exact @decide_eq_true_iff _ (Classical.propDecidable _)
theorem isP_no {z : Int} (h : ¬ (0 ≤ z ∧ Prm z.toNat)) : isP z = false := by
  cases hb : isP z with
  | false => rfl
  | true => exact absurd (isP_iff.1 hb) h

theorem aprime_ct {z : Int} (hz : z ≤ 2147483647) :
    Ct Try.prog 98 [.int .i64 z] G U M fun v U' D => v = .bool (isP z) ∧ U = U' ∧ D = [] := by
  refine ct_of_st Try.func98 rfl rfl rfl rfl ?_
  repeat (first | refine run_S ?_ | refine w_box (fun _ => ?_) | refine w_al (fun _ => ?_))
  refine st_dec rfl (fun h => ?_) (fun h => ?_)
  · repeat (first | refine run_S ?_ | refine w_box (fun _ => ?_) | refine w_al (fun _ => ?_))
    exact sk_ret [] sym rfl (.cons (.tmp rfl) .nil) (ULe.refl _) sb (.inl rfl) ⟨by rw [isP_no (fun h2 => by have := h2.2.two; omega)]; rfl, rfl, rfl⟩
  obtain ⟨n, rfl⟩ : ∃ n : Nat, z = (n : Int) := ⟨z.toNat, by omega⟩
  have hP : isP (n : Int) = true ↔ Prm n := by rw [isP_iff, Int.toNat_natCast]; exact ⟨fun h => h.2, fun h => ⟨by omega, h⟩⟩
  repeat (first | refine run_S ?_ | refine w_box (fun _ => ?_) | refine w_al (fun _ => ?_))
  try refine st_anti (M' := M) (ULe.refl _) sbk ?_
  refine st_loop (fun z E U' M' => ∃ (d : Nat), 2 ≤ d ∧ d ≤ n + 1 ∧ (∀ k, 2 ≤ k → k < d → n % k ≠ 0) ∧ U = U' ∧ E = [(3, .int .i64 (d : Int)), (0, .int .i64 (n : Int))] ∧ ULe U U' ∧ M' = M ∧ z = n + 2 - d) (n0 := n + 2 - 2) (E0 := [(3, .int .i64 ((2 : Nat) : Int)), (0, .int .i64 (n : Int))]) ⟨rfl, rfl, trivial⟩ ⟨2, Nat.le_refl 2, by omega, (fun k h1 h2 => absurd h1 (by omega)), rfl, rfl, uc, rfl, rfl⟩ ?_
  rintro z E U1 M' ⟨d, hd2, hdn, hno, rfl, rfl, hU1, rfl, rfl⟩
  have hdd : d * d ≤ 2147483648 * 2147483648 := Nat.mul_le_mul (by omega) (by omega)
  have hcast : (d : Int) * (d : Int) = ((d * d : Nat) : Int) := (Int.natCast_mul d d).symm
  have hbd : 0 ≤ (d : Int) * (d : Int) ∧ (d : Int) * (d : Int) ≤ 4611686018427387904 := by omega
  try refine run_s ?_
  refine st_dec rfl (fun h1 => ?_) (fun h1 => ?_)
  · have hdl : d ≤ n := by
      have := Nat.mul_le_mul_right d (show 1 ≤ d by omega)
      omega
    try refine run_s ?_
    refine sl_y (yl_remN (m := n) (n := d) rfl rfl rfl rfl rfl (by simp only [kmax]; omega) (by omega) rfl) rfl rfl rfl rfl ?_
    try refine run_s ?_
    refine st_eq rfl (fun h2 => ?_) (fun h2 => ?_)
    · try refine run_s ?_
      have hn : isP (n : Int) = false := isP_no fun hp => (Fq.prm_iff.1 hp.2).2 d hd2 (by rw [Int.toNat_natCast]; omega) (by rw [Int.toNat_natCast]; omega)
      exact sk_ret [] sym rfl (.cons (.tmp rfl) .nil) (ULe.refl _) sb (.inl rfl) ⟨by rw [hn]; rfl, rfl, rfl⟩
    · try refine run_s ?_
      have hno2 : ∀ k, 2 ≤ k → k < d + 1 → n % k ≠ 0 := fun k h3 h4 => by
        rcases Nat.lt_or_eq_of_le (Nat.le_of_lt_succ h4) with h5 | h5
        · exact hno k h3 h5
        · subst h5; omega
      exact sk_again (E' := [(3, .int .i64 ((d : Int) + 1)), (0, .int .i64 (n : Int))]) (m := n + 2 - (d + 1)) ⟨rfl, rfl, trivial⟩ (by omega) ⟨d + 1, by omega, by omega, hno2, rfl, rfl, uc, rfl, rfl⟩
  · try refine run_s ?_
    have hp : isP (n : Int) = true := hP.2 (Fq.prm_iff.2 ⟨by omega, fun k h3 h4 => by
      rcases Nat.lt_or_ge k d with h5 | h5
      · exact hno k h3 h5
      · have := Nat.mul_le_mul h5 h5; omega⟩)
    exact sk_ret [] sym rfl (.cons (.tmp rfl) .nil) (ULe.refl _) sb (.inl rfl) ⟨by rw [hp]; rfl, rfl, rfl⟩

theorem aIsPrime_ct {z : Int} (h0 : z ≤ 2147483647) :
    Ct Try.prog 94 [.int .i64 z] G U M fun v U' D => v = .tuple #[.bool (isP z), .int .i64 0] ∧ U = U' ∧ D = [] := by
  refine ct_of_st Try.func94 rfl rfl rfl rfl ?_
  repeat (first | refine run_S ?_ | refine w_box (fun _ => ?_) | refine w_al (fun _ => ?_))
  refine st_dec rfl (fun h => absurd h (by omega)) (fun h => ?_)
  repeat (first | refine run_S ?_ | refine w_box (fun _ => ?_) | refine w_al (fun _ => ?_))
  refine sl_call rfl rfl rfl rfl rfl rfl (fun _ => aprime_ct (z := z) h0) ?_
  rintro v U' D hU ⟨rfl, rfl, rfl⟩
  repeat (first | refine run_S ?_ | refine w_box (fun _ => ?_) | refine w_al (fun _ => ?_))
  exact sk_ret [] sym rfl (.cons (.tmp rfl) (.cons (.tmp rfl) .nil)) (ULe.refl _) sb (.inl rfl) ⟨rfl, rfl, rfl⟩

/-- May it be a modulus? -/
noncomputable def modP (z : Int) : Bool := if z ≤ 65521 then isP z else false
theorem fprime_ct {z : Int} :
    Ct Try.prog 75 [.int .i64 z] G U M fun v U' D => v = .bool (modP z) ∧ U = U' ∧ D = [] := by
  refine ct_of_st Try.func75 rfl rfl rfl rfl ?_
  repeat (first | refine run_S ?_ | refine w_box (fun _ => ?_) | refine w_al (fun _ => ?_))
  refine sl_gdec rfl rfl (fun h1 => ?_) (fun h1 => ?_)
  · repeat (first | refine run_S ?_ | refine w_box (fun _ => ?_) | refine w_al (fun _ => ?_))
    exact sk_ret [] sym rfl (.cons (.tmp rfl) .nil) (ULe.refl _) sb (.inl rfl) ⟨by
      unfold modP
      rw [isP_no (fun h2 => by have := h2.2.two; omega)]
      split <;> rfl, rfl, rfl⟩
  · repeat (first | refine run_S ?_ | refine w_box (fun _ => ?_) | refine w_al (fun _ => ?_))
    refine st_dec rfl (fun h2 => ?_) (fun h2 => ?_)
    · repeat (first | refine run_S ?_ | refine w_box (fun _ => ?_) | refine w_al (fun _ => ?_))
      exact sk_ret [] sym rfl (.cons (.tmp rfl) .nil) (ULe.refl _) sb (.inl rfl) ⟨by unfold modP; rw [if_neg (by omega)]; rfl, rfl, rfl⟩
    · repeat (first | refine run_S ?_ | refine w_box (fun _ => ?_) | refine w_al (fun _ => ?_))
      refine sl_call rfl rfl rfl rfl rfl rfl (fun _ => aIsPrime_ct (z := z) (by omega)) ?_
      rintro v U' D hU ⟨rfl, rfl, rfl⟩
      repeat (first | refine run_S ?_ | refine w_box (fun _ => ?_) | refine w_al (fun _ => ?_))
      exact sk_ret [] sym rfl (.cons (.tmp rfl) .nil) (ULe.refl _) sb (.inl rfl) ⟨by unfold modP; rw [if_pos (by omega)]; rfl, rfl, rfl⟩

end Go.Proofs.Ytlnmhjkagnfnaaa

/- Walks of arith and of its reference: inverses modulo primes. -/
namespace Go.Proofs.Ytlnmhjkagnfnaaa
open Go.Hp
open Go.Fq (Pm Fp Prm)
variable {G : World} {U : UH} {M : MH}

/-- A quotient, cut towards nought. -/
theorem _root_.Go.Hp.yl_quo {P : Program} {N : Nat} {E : Env} {o : Oper} {ty yt : Nat} {x y : Operand} {k : IntKind} {a b : Int} (ho : o.op = .binOp .quo ty x y yt) (hx : ev E x = some (.int k a)) (hy : ev E y = some (.int k b))
    (h : b ≠ 0) : Yl P N G o E U M (.int k (k.wrap (a.tdiv b))) := by
  refine yl_bin ho hx hy (funext fun w => ?_)
  simp [binOp, Op.intDiv, h]

theorem fp_bd {P : Pm} (a b : Fp P) (hp : P.1 ≤ 2147483647) : 0 ≤ (a.v : Int) * (b.v : Int) ∧ (a.v : Int) * (b.v : Int) ≤ 4611686014132420609 := by
  have h1 := a.lt
  have h2 := b.lt
  have h3 : a.v * b.v ≤ 2147483647 * 2147483647 := Nat.mul_le_mul (by omega) (by omega)
  rw [← Int.natCast_mul]
  omega

theorem ainRange_ct {z : Int} (h0 : 1 ≤ z) (h1 : z ≤ 2147483647) :
    Ct Try.prog 99 [.int .i64 z] G U M fun v U' D => v = .bool true ∧ U = U' ∧ D = [] := by
  refine ct_of_st Try.func99 rfl rfl rfl rfl ?_
  repeat (first | refine run_S ?_ | refine w_box (fun _ => ?_) | refine w_al (fun _ => ?_))
  refine sl_gdec rfl rfl (fun _ => ?_) (fun h => absurd h (by omega))
  repeat (first | refine run_S ?_ | refine w_box (fun _ => ?_) | refine w_al (fun _ => ?_))
  exact sk_ret [] sym rfl (.cons (.tmp rfl) .nil) (ULe.refl _) sb (.inl rfl) ⟨by rw [dec_true h1]; rfl, rfl, rfl⟩

theorem aXgcd_ct {P : Pm} {a : Fp P} (ha : a ≠ 0) (hp : P.1 ≤ 2147483647) :
    Ct Try.prog 100 [.int .i64 (a.v : Int), .int .i64 (P.1 : Int)] G U M fun v U' D => ∃ w : Int, v = .tuple #[.int .i64 1, .int .i64 (a⁻¹.v : Int), .int .i64 w, .int .i64 0] ∧ U = U' ∧ D = [] := by
  have hp2 := P.2.two
  have hal := a.lt
  refine ct_of_st Try.func100 rfl rfl rfl rfl ?_
  repeat (first | refine run_S ?_ | refine w_box (fun _ => ?_) | refine w_al (fun _ => ?_))
  refine sl_gdec rfl rfl (fun h => absurd h (by omega)) (fun _ => ?_)
  repeat (first | refine run_S ?_ | refine w_box (fun _ => ?_) | refine w_al (fun _ => ?_))
  refine sl_gdec rfl rfl (fun h => absurd h (by omega)) (fun _ => ?_)
  repeat (first | refine run_S ?_ | refine w_box (fun _ => ?_) | refine w_al (fun _ => ?_))
  refine sl_gdec rfl rfl (fun h => absurd h (by omega)) (fun _ => ?_)
  repeat (first | refine run_S ?_ | refine w_box (fun _ => ?_) | refine w_al (fun _ => ?_))
  refine st_dec rfl (fun h => absurd h (by omega)) (fun _ => ?_)
  repeat (first | refine run_S ?_ | refine w_box (fun _ => ?_) | refine w_al (fun _ => ?_))
  refine st_eq rfl (fun h => absurd h (by omega)) (fun _ => ?_)
  repeat (first | refine run_S ?_ | refine w_box (fun _ => ?_) | refine w_al (fun _ => ?_))
  try refine st_anti (M' := M) (ULe.refl _) sbk ?_
  refine st_loop (fun z E U' M' => ∃ (g r : Nat) (u x e : Int), Fq.Eu (a.v : Int) (P.1 : Int) (g : Int) (r : Int) u x e ∧ (-(P.1 : Int) ≤ x ∧ x ≤ (P.1 : Int)) ∧ g ≤ P.1 ∧ r ≤ P.1 ∧ U = U' ∧ E = [(4, .int .i64 (g : Int)), (9, .int .i64 (r : Int)), (5, .int .i64 u), (8, .int .i64 x), (0, .int .i64 (a.v : Int)), (1, .int .i64 (P.1 : Int))] ∧ ULe U U' ∧ M' = M ∧ z = r) (n0 := P.1) (E0 := [(4, .int .i64 ((a.v : Nat) : Int)), (9, .int .i64 ((P.1 : Nat) : Int)), (5, .int .i64 1), (8, .int .i64 0), (0, .int .i64 (a.v : Int)), (1, .int .i64 (P.1 : Int))]) ⟨rfl, rfl, rfl, rfl, rfl, rfl, trivial⟩ ⟨a.v, P.1, 1, 0, 1, Fq.Eu.start (by omega) (by omega), by omega, by omega, by omega, rfl, rfl, uc, rfl, rfl⟩ ?_
  rintro z E U1 M' ⟨g, r, u, x, e, hE, hx, hg, hr, rfl, rfl, hU1, rfl, hzL⟩
  try refine run_s ?_
  refine st_ne rfl (fun h1 => ?_) (fun h1 => ?_)
  · have hdm := Nat.div_add_mod g r
    have hlt := Nat.mod_lt g (show 0 < r by omega)
    obtain ⟨q, hq⟩ : ∃ q, g / r = q := ⟨_, rfl⟩
    obtain ⟨s, hs⟩ : ∃ s, g % r = s := ⟨_, rfl⟩
    rw [hq, hs] at hdm
    rw [hs] at hlt
    have hgr : (g : Int) = (q : Int) * (r : Int) + (s : Int) := by
      rw [← Int.natCast_mul, Nat.mul_comm]; omega
    have hS := hE.step (q := (q : Int)) (s := (s : Int)) (by omega) hgr (by omega) (by omega) hx
    have hV := hS.vb (by omega)
    have hub := hE.ub
    have hm1 : 0 ≤ (q : Int) * (r : Int) ∧ (q : Int) * (r : Int) ≤ P.1 := by
      have := Int.mul_nonneg (show (0 : Int) ≤ q by omega) (show (0 : Int) ≤ r by omega)
      omega
    have hm2 : -(2 * (P.1 : Int)) ≤ (q : Int) * x ∧ (q : Int) * x ≤ 2 * (P.1 : Int) := by omega
    try refine run_s ?_
    refine sl_y (yl_quoN (m := g) (n := r) (q := q) rfl rfl rfl rfl rfl (by simp only [kmax]; omega) (by omega) hq) rfl rfl rfl rfl ?_
    try refine run_s ?_
    rw [show (g : Int) - (q : Int) * (r : Int) = (s : Int) by omega]
    exact sk_again (E' := [(4, .int .i64 ((r : Nat) : Int)), (9, .int .i64 ((s : Nat) : Int)), (5, .int .i64 x), (8, .int .i64 (u - (q : Int) * x)), (0, .int .i64 (a.v : Int)), (1, .int .i64 (P.1 : Int))]) (m := s) ⟨rfl, rfl, rfl, rfl, rfl, rfl, trivial⟩ (by omega) ⟨r, s, x, u - (q : Int) * x, -e, hS, hV, by omega, by omega, rfl, rfl, uc, rfl, rfl⟩
  · have hr0 : r = 0 := by omega
    subst hr0
    obtain ⟨h2, h3⟩ := hE.inv ha
    have hg1 : g = 1 := by omega
    subst hg1
    have hub := hE.ub
    try refine run_s ?_
    refine st_dec rfl (fun h => absurd h (by omega)) (fun _ => ?_)
    try refine run_s ?_
    have e1 : IntKind.i64.wrap ((if IntKind.i64.wrap (0 - (P.1 : Int)) > (P.1 : Int) then IntKind.i64.wrap (0 - (P.1 : Int)) else (P.1 : Int)).tdiv ((1 : Nat) : Int)) = (P.1 : Int) := by
      have e2 : IntKind.i64.wrap (0 - (P.1 : Int)) = 0 - (P.1 : Int) := IntWalk.i64_in _ (by omega)
      rw [e2, if_neg (by omega)]
      have e3 : (P.1 : Int).tdiv ((1 : Nat) : Int) = (P.1 : Int) := Int.tdiv_one _
      rw [e3]
      exact IntWalk.i64_in _ (by omega)
    rw [e1]
    refine sl_call rfl rfl rfl rfl rfl rfl (fun _ => aResidue_ct (z := u) (m := (P.1 : Int)) (by omega) (by omega)) ?_
    rintro v U' D hU ⟨rfl, rfl, rfl⟩
    repeat (first | refine run_S ?_ | refine w_box (fun _ => ?_) | refine w_al (fun _ => ?_))
    have hu : u % (P.1 : Int) = (a⁻¹.v : Int) := by rw [← h3, Fq.of_val]
    rw [hu]
    have hb := fp_bd a⁻¹ a hp
    try refine run_s ?_
    refine st_draw [0, 1, 2, 3, 4, 5, 6, 7, 8, 9, 10, 11, 12] sym (by kernel_rfl) ?_
    try refine run_s ?_
    refine sl_y (yl_quo (k := .i64) rfl rfl rfl (by omega)) rfl rfl rfl rfl ?_
    try refine run_s ?_
    exact sk_ret [] sym rfl (.cons (.tmp rfl) (.cons (.tmp rfl) (.cons (.tmp rfl) (.cons (.tmp rfl) .nil)))) uc sb (.inl rfl) ⟨_, rfl, rfl, rfl⟩

theorem aInverse_ct {P : Pm} {a : Fp P} (ha : a ≠ 0) (hp : P.1 ≤ 2147483647) :
    Ct Try.prog 95 [.int .i64 (a.v : Int), .int .i64 (P.1 : Int)] G U M fun v U' D => v = .tuple #[.int .i64 (a⁻¹.v : Int), .int .i64 0] ∧ U = U' ∧ D = [] := by
  have hp2 := P.2.two
  have hal := a.lt
  refine ct_of_st Try.func95 rfl rfl rfl rfl ?_
  repeat (first | refine run_S ?_ | refine w_box (fun _ => ?_) | refine w_al (fun _ => ?_))
  refine sl_call rfl rfl rfl rfl rfl rfl (fun _ => ainRange_ct (z := (P.1 : Int)) (by omega) (by omega)) ?_
  rintro v U' D hU ⟨rfl, rfl, rfl⟩
  repeat (first | refine run_S ?_ | refine w_box (fun _ => ?_) | refine w_al (fun _ => ?_))
  repeat (first | refine run_S ?_ | refine w_box (fun _ => ?_) | refine w_al (fun _ => ?_))
  refine sl_call rfl rfl rfl rfl rfl rfl (fun _ => aResidue_ct (z := (a.v : Int)) (m := (P.1 : Int)) (by omega) (by omega)) ?_
  rintro v U' D hU ⟨rfl, rfl, rfl⟩
  repeat (first | refine run_S ?_ | refine w_box (fun _ => ?_) | refine w_al (fun _ => ?_))
  rw [Int.emod_eq_of_lt (by omega) (by omega)]
  refine sl_call rfl rfl rfl rfl rfl rfl (fun _ => aXgcd_ct ha hp) ?_
  rintro v U' D hU ⟨w, rfl, rfl, rfl⟩
  repeat (first | refine run_S ?_ | refine w_box (fun _ => ?_) | refine w_al (fun _ => ?_))
  refine st_ne rfl (fun h => absurd rfl h) (fun _ => ?_)
  repeat (first | refine run_S ?_ | refine w_box (fun _ => ?_) | refine w_al (fun _ => ?_))
  exact sk_ret [] sym rfl (.cons (.tmp rfl) (.cons (.tmp rfl) .nil)) uc sb (.inl rfl) ⟨rfl, rfl, rfl⟩
theorem fInverse_ct {P : Pm} {a : Fp P} (ha : a ≠ 0) (hp : P.1 ≤ 2147483647) :
    Ct Try.prog 78 [.int .i64 (a.v : Int), .int .i64 (P.1 : Int)] G U M fun v U' D => v = .int .i64 (a⁻¹.v : Int) ∧ U = U' ∧ D = [] := by
  refine ct_of_st Try.func78 rfl rfl rfl rfl ?_
  repeat (first | refine run_S ?_ | refine w_box (fun _ => ?_) | refine w_al (fun _ => ?_))
  refine sl_call rfl rfl rfl rfl rfl rfl (fun _ => aInverse_ct ha hp) ?_
  rintro v U' D hU ⟨rfl, rfl, rfl⟩
  repeat (first | refine run_S ?_ | refine w_box (fun _ => ?_) | refine w_al (fun _ => ?_))
  exact sk_ret [] sym rfl (.cons (.tmp rfl) .nil) uc sb (.inl rfl) ⟨rfl, rfl, rfl⟩
end Go.Proofs.Ytlnmhjkagnfnaaa

/- Walks of modmatrix: residues as values; grids are made, and laid down as matrices. -/
namespace Go.Proofs.Ytlnmhjkagnfnaaa
open Go.Hp
open Go.Fq (Pm Fp Prm)
variable {G : World} {U U' : UH} {M : MH}

abbrev TF : Nat := 44
/-- The same entries in another order. -/
theorem pf {α : Type} {a b : List α} (h : ∀ f : α → Nat, (a.map f).sum = (b.map f).sum := by intro f; simp only [TInt, TIs, TF, List.map_append, List.map_cons, List.sum_append, List.sum_cons, List.flatten_cons, List.flatten_append, List.flatten_nil, List.map_nil, List.sum_nil, List.nil_append, List.append_nil]; omega) : a.Perm b := pq h
/-- A residue. -/
def Vf (P : Pm) (_ : UH) (v : Value) (x : Fp P) : Prop := v = .int .i64 (x.v : Int)
instance {P : Pm} : KeptC (Vf P) := ⟨fun _ _ _ _ _ h => h⟩
theorem one_f {P : Pm} {v : Value} {x : Fp P} (h : Vf P U v x) : v.cells.toList.all Value.oneCell' = true := by obtain rfl := h; rfl

section
variable {P : Pm}
theorem _root_.Go.Fq.v_mul (a b : Fp P) : (a * b).v = a.v * b.v % P.1 := by
  have h1 : ((a * b).v : Int) = ((a.v : Int) * b.v) % (P.1 : Int) := Fq.of_val _
  rw [← Int.natCast_mul, ← Int.natCast_emod] at h1
  omega
theorem _root_.Go.Fq.v_comb (x f y : Fp P) : (x + -f * y).v = (x.v + (P.1 - f.v) * y.v) % P.1 := by
  have hf := f.lt
  have h0 : x + -f * y = Fq.of P ((x.v : Int) + ((P.1 - f.v : Nat) : Int) * y.v) := by
    rw [Fq.of_add, Fq.of_mul, Fq.of_v, Fq.of_v, show ((P.1 - f.v : Nat) : Int) = -(f.v : Int) + (P.1 : Int) * 1 by omega, Fq.of_sub_mul, Fq.of_neg, Fq.of_v]
  have h1 := Fq.of_val (P := P) ((x.v : Int) + ((P.1 - f.v : Nat) : Int) * y.v)
  rw [← h0, ← Int.natCast_mul, ← Int.natCast_add, ← Int.natCast_emod] at h1
  omega
theorem _root_.Go.Fq.v_neg {x : Fp P} (h : x ≠ 0) : ((-x).v : Int) = (P.1 : Int) - x.v := by
  have hl := x.lt
  have hx : x.v ≠ 0 := fun e => h (Fq.v_eq_zero.1 e)
  have h0 : -x = Fq.of P ((P.1 : Int) - x.v) := by
    rw [show (P.1 : Int) - x.v = -(x.v : Int) + (P.1 : Int) * 1 by omega, Fq.of_sub_mul, Fq.of_neg, Fq.of_v]
  rw [h0, Fq.of_val, Int.emod_eq_of_lt (by omega) (by omega)]

variable {N : Nat} {E : Env} {o : Oper} {ty yt : Nat} {s t : Operand}
theorem yl_fmul {a b : Fp P} (ho : o.op = .binOp .rem ty s t yt) (hx : ev E s = some (.int .i64 ((a.v : Int) * (b.v : Int)))) (hy : ev E t = some (.int .i64 (P.1 : Int))) (hp : P.1 ≤ 65536) : Yl Try.prog N G o E U M (.int .i64 ((a * b).v : Int)) := by
  have h1 := fp_bd a b (by omega)
  have h2 := P.2.two
  exact yl_remN (m := a.v * b.v) (n := P.1) ho hx hy (Int.natCast_mul _ _).symm rfl (by rw [Int.natCast_mul]; simp only [kmax]; omega) (by omega) (Fq.v_mul a b).symm
theorem f_bd2 (x f y : Fp P) (hp : P.1 ≤ 65536) : 0 ≤ ((P.1 : Int) - (f.v : Int)) * (y.v : Int) ∧ ((P.1 : Int) - (f.v : Int)) * (y.v : Int) ≤ 4294967296 ∧ (x.v : Int) ≤ 65536 := by
  have h1 := x.lt
  have h2 := f.lt
  have h3 := y.lt
  have h4 : (P.1 - f.v) * y.v ≤ 65536 * 65536 := Nat.mul_le_mul (by omega) (by omega)
  have h5 : ((P.1 : Int) - (f.v : Int)) * (y.v : Int) = (((P.1 - f.v) * y.v : Nat) : Int) := by
    rw [Int.natCast_mul, show (P.1 : Int) - (f.v : Int) = ((P.1 - f.v : Nat) : Int) by omega]
  omega
theorem yl_fcomb {x f y : Fp P} (ho : o.op = .binOp .rem ty s t yt) (hx : ev E s = some (.int .i64 ((x.v : Int) + ((P.1 : Int) - (f.v : Int)) * (y.v : Int)))) (hy : ev E t = some (.int .i64 (P.1 : Int))) (hp : P.1 ≤ 65536) : Yl Try.prog N G o E U M (.int .i64 ((x + -f * y).v : Int)) := by
  have h1 := f_bd2 x f y hp
  have h2 := f.lt
  have h5 : ((P.1 : Int) - (f.v : Int)) * (y.v : Int) = (((P.1 - f.v) * y.v : Nat) : Int) := by
    rw [Int.natCast_mul, show (P.1 : Int) - (f.v : Int) = ((P.1 - f.v : Nat) : Int) by omega]
  exact yl_remN (m := x.v + (P.1 - f.v) * y.v) (n := P.1) ho hx hy (by rw [Int.natCast_add, h5]) rfl (by rw [Int.natCast_add, ← h5]; simp only [kmax]; omega) (by omega) (Fq.v_comb x f y).symm
end

theorem fload_co {P : Pm} {r c : Nat} {vm : Value} {A : Nat → Nat → Int} (hm : Vmm Vz r c U M vm A) (hp : P.1 ≤ 65536) (hr : r ≤ 100000) (hc : c ≤ 100000) (hrc : r * c ≤ 100000000) :
    Ct Try.prog 48 [.int .i64 (P.1 : Int), vm] G U M fun v U' D => Goz (Vf P) zO r c U' D v (fun i j => Fq.of P (A i j)) ∧ ULe U U' := by
  have hp2 := P.2.two
  obtain ⟨_, rfl, p, cc, as1, rfl, -, rw1, el⟩ := hm
  refine ct_of_st Try.func48 rfl rfl rfl rfl ?_
  repeat (first | refine run_S ?_ | refine w_box (fun _ => ?_) | refine w_al (fun _ => ?_))
  rename_i b1
  refine sl_make (m := r) (n := r) sym rfl rfl rfl rfl rfl rfl rfl rfl rfl (Nat.le_refl r) (by omega) (by omega) rfl rfl rfl rfl (fun b2 => ?_)
  have hrow := rowO_make (e := TIs) (s := 1) (b := b2) (n := r) (z := .slice none 0 0) rfl (by omega)
  try refine run_s ?_
  refine st_perm (M' := (b1, .var (.agg #[.int .i64 (r : Int), .int .i64 (c : Int), .slice p (r * c) cc]), TF) :: ([(b2, .arr (List.replicate r (.slice none 0 0)), TIs)] ++ M)) pf ?_
  try refine st_anti (M' := (b1, .var (.agg #[.int .i64 (r : Int), .int .i64 (c : Int), .slice p (r * c) cc]), TF) :: (([(b2, _, _)]) ++ (([]).flatten ++ M))) (ULe.refl _) sbk ?_
  refine st_loop (fun z E U' M' => ∃ (i : Nat) (svs : List Value) (D : MH) (F : List MH), i ≤ r ∧ RowO TIs 1 D (some ⟨b2, 0, none⟩) r r svs ∧ Gz (Vf P) zO c U' (svs.take i) F (fun i j => Fq.of P (A i j)) ∧ E = [(13, .int .i64 (i : Int)), (5, .slice (some ⟨b2, 0, none⟩) r r), (12, .int .i64 (r : Int)), (3, .pointer (some ⟨b1, 0, none⟩)), (0, .int .i64 (P.1 : Int))] ∧ ULe U U' ∧ M' = (b1, .var (.agg #[.int .i64 (r : Int), .int .i64 (c : Int), .slice p (r * c) cc]), TF) :: (D ++ (F.flatten ++ M)) ∧ z = r - i) (n0 := r - 0) (E0 := [(13, .int .i64 ((0 : Nat) : Int)), (5, .slice (some ⟨b2, 0, none⟩) r r), (12, .int .i64 (r : Int)), (3, .pointer (some ⟨b1, 0, none⟩)), (0, .int .i64 (P.1 : Int))]) ⟨rfl, rfl, rfl, rfl, rfl, trivial⟩ ⟨0, _, [(b2, _, _)], [], by omega, hrow, Gz.nil, rfl, uc, rfl, rfl⟩ ?_
  rintro z E U1 M' ⟨i, svs, D, F, hi, hrow, hg, rfl, hU1, rfl, rfl⟩
  try refine run_s ?_
  refine st_dec rfl (fun h => ?_) (fun h => ?_)
  · have hir : i < r := by omega
    try refine run_s ?_
    refine sl_make (m := c) (n := c) sym rfl rfl rfl rfl rfl rfl rfl rfl rfl (Nat.le_refl c) (by omega) (by omega) rfl rfl rfl rfl (fun b3 => ?_)
    have hrow2 := rowO_make (e := TInt) (s := 1) (b := b3) (n := c) (z := .int .i64 0) rfl (by omega)
    refine w_addr (j := i) hir rfl ?_
    refine w_storeR (X := (b3, .arr (List.replicate c (.int .i64 0)), TInt) :: (b1, .var (.agg #[.int .i64 (r : Int), .int .i64 (c : Int), .slice p (r * c) cc]), TF) :: (F.flatten ++ M)) hrow pf hir (fun D2 hr2 => ?_)
    refine sl_perm (M' := (b1, .var (.agg #[.int .i64 (r : Int), .int .i64 (c : Int), .slice p (r * c) cc]), TF) :: ([(b3, .arr (List.replicate c (.int .i64 0)), TInt)] ++ (D2 ++ (F.flatten ++ M)))) ?_ pf
    have hsl := hrow.len.1
    have hvi : (svs.set i (.slice (some ⟨b3, 0, none⟩) c c))[i]? = some (.slice (some ⟨b3, 0, none⟩) c c) := List.getElem?_set_self (by omega)
    have hgi : Gz (Vf P) zO c U1 ((svs.set i (.slice (some ⟨b3, 0, none⟩) c c)).take i) F (fun i j => Fq.of P (A i j)) := by rw [List.take_set_of_le (Nat.le_refl i)]; exact hg
    generalize svs.set i (.slice (some ⟨b3, 0, none⟩) c c) = sv2 at hr2 hvi hgi
    clear hrow hg hsl
    try refine run_s ?_
    have rO := hr2.at (U := U1) (M := (b1, .var (.agg #[.int .i64 (r : Int), .int .i64 (c : Int), .slice p (r * c) cc]), TF) :: ([(b3, .arr (List.replicate c (.int .i64 0)), TInt)] ++ (D2 ++ (F.flatten ++ M)))) sb
    refine sl_y (yl_index sym rfl rfl rfl rfl rfl rfl (rO.lt hvi) (rO.get _ _ hvi).1) rfl rfl rfl rfl ?_; refine sl_y (yl_loadR1 sym rfl rfl rfl rfl rO hvi rfl) rfl rfl rfl rfl ?_
    try refine run_s ?_
    try refine st_anti (M' := (b1, .var (.agg #[.int .i64 (r : Int), .int .i64 (c : Int), .slice p (r * c) cc]), TF) :: (Dr ++ (D2 ++ (F.flatten ++ M)))) (ULe.refl _) sbk ?_
    refine st_loop (fun z E U' M' => ∃ (j : Nat) (us : List Value) (Dr : MH), j ≤ c ∧ RowO TInt 1 Dr (some ⟨b3, 0, none⟩) c c us ∧ ElTo (Vf P) U' j us (fun j => Fq.of P (A i j)) ∧ E = [(27, .int .i64 (j : Int)), (26, .int .i64 (c : Int)), (6, .int .i64 (i : Int)), (13, .int .i64 (i : Int)), (5, .slice (some ⟨b2, 0, none⟩) r r), (12, .int .i64 (r : Int)), (3, .pointer (some ⟨b1, 0, none⟩)), (0, .int .i64 (P.1 : Int))] ∧ ULe U1 U' ∧ M' = (b1, .var (.agg #[.int .i64 (r : Int), .int .i64 (c : Int), .slice p (r * c) cc]), TF) :: (Dr ++ (D2 ++ (F.flatten ++ M))) ∧ z = c - j) (n0 := c - 0) (E0 := [(27, .int .i64 ((0 : Nat) : Int)), (26, .int .i64 (c : Int)), (6, .int .i64 (i : Int)), (13, .int .i64 (i : Int)), (5, .slice (some ⟨b2, 0, none⟩) r r), (12, .int .i64 (r : Int)), (3, .pointer (some ⟨b1, 0, none⟩)), (0, .int .i64 (P.1 : Int))]) ⟨rfl, rfl, rfl, rfl, rfl, rfl, rfl, rfl, trivial⟩ ⟨0, _, _, by omega, hrow2, (fun k x hk => absurd hk (Nat.not_lt_zero k)), rfl, uc, rfl, rfl⟩ ?_
    clear hrow2
    rintro z E U2 M' ⟨j, us, Dr, hj, hrow, hel, rfl, hU2, rfl, rfl⟩
    try refine run_s ?_
    refine st_dec rfl (fun h2 => ?_) (fun h2 => ?_)
    · have hjc : j < c := by omega
      have hlt := ij_lt hir hjc
      obtain ⟨v1, hv1⟩ := rw1.at hlt
      obtain ⟨rfl, hz⟩ := el _ _ hv1
      rw [fl_at hjc] at hv1
      try refine run_s ?_
      refine st_drawM [17, 18] [0, 1, 2, 3, 4, 5, 6, 7, 8, 9, 10, 11, 12, 13, 14, 15, 16, 17, 18] sym (by kernel_rfl) ?_
      try refine run_s ?_
      have rO := hr2.at (U := U2) (M := (b1, .var (.agg #[.int .i64 (r : Int), .int .i64 (c : Int), .slice p (r * c) cc]), TF) :: (Dr ++ (D2 ++ (F.flatten ++ M)))) sb
      refine sl_y (yl_index sym rfl rfl rfl rfl rfl rfl (rO.lt hvi) (rO.get _ _ hvi).1) rfl rfl rfl rfl ?_; refine sl_y (yl_loadR1 sym rfl rfl rfl rfl rO hvi rfl) rfl rfl rfl rfl ?_
      try refine run_s ?_
      refine sl_y (yl_index sym rfl rfl rfl rfl rfl ( by omega) ((rw1.up uc sb).lt hv1) ((rw1.up uc sb).get _ _ hv1).1) rfl rfl rfl rfl ?_; refine sl_y (yl_loadR1 sym rfl rfl rfl rfl (rw1.up uc sb) hv1 rfl) rfl rfl rfl rfl ?_
      try refine run_s ?_
      refine sl_call rfl rfl rfl rfl rfl rfl (fun _ => fResidue_ct (z := A i j) (m := (P.1 : Int)) (by omega) (by omega)) ?_
      rintro v U' D hU ⟨rfl, rfl, rfl⟩
      repeat (first | refine run_S ?_ | refine w_box (fun _ => ?_) | refine w_al (fun _ => ?_))
      refine w_addr (j := j) hjc rfl ?_
      refine w_storeR (v := .int .i64 (A i j % (P.1 : Int))) (X := (b1, .var (.agg #[.int .i64 (r : Int), .int .i64 (c : Int), .slice p (r * c) cc]), TF) :: (D2 ++ (F.flatten ++ M))) hrow pf hjc (fun D4 hr4 => ?_)
      refine sl_perm ?_ perm1
      try refine run_s ?_
      exact sk_again (E' := [(27, .int .i64 ((j : Int) + 1)), (26, .int .i64 (c : Int)), (6, .int .i64 (i : Int)), (13, .int .i64 (i : Int)), (5, .slice (some ⟨b2, 0, none⟩) r r), (12, .int .i64 (r : Int)), (3, .pointer (some ⟨b1, 0, none⟩)), (0, .int .i64 (P.1 : Int))]) (m := c - (j + 1)) ⟨rfl, rfl, rfl, rfl, rfl, rfl, rfl, rfl, trivial⟩ (by omega) ⟨j + 1, _, D4, by omega, hr4, (hel.up KeptC.out uc).next (by show _ = Value.int .i64 (((Fq.of P (A i j)).v : Nat) : Int); rw [Fq.of_val]), rfl, uc, rfl, rfl⟩
    · have e : j = c := by omega
      subst e
      try refine run_s ?_
      refine sk_perm (M' := (b1, .var (.agg #[.int .i64 (r : Int), .int .i64 (j : Int), .slice p (r * j) cc]), TF) :: (D2 ++ ((F ++ [Dr]).flatten ++ M))) pf ?_
      have hnx : Gz (Vf P) zO j U2 (sv2.take (i + 1)) (F ++ [Dr]) (fun i j => Fq.of P (A i j)) := by
        rw [List.take_add_one, hvi]
        exact (hgi.up uc).snoc (by rw [List.length_take, hr2.len.1]; omega) (Nat.le_refl _) hrow (hel.all hrow.len.1)
      exact sk_again (E' := [(13, .int .i64 ((i : Int) + 1)), (5, .slice (some ⟨b2, 0, none⟩) r r), (12, .int .i64 (r : Int)), (3, .pointer (some ⟨b1, 0, none⟩)), (0, .int .i64 (P.1 : Int))]) (m := r - (i + 1)) ⟨rfl, rfl, rfl, rfl, rfl, trivial⟩ (by omega) ⟨i + 1, sv2, D2, F ++ [Dr], by omega, hr2, hnx, rfl, uc, rfl, rfl⟩
  · have e : i = r := by omega
    subst e
    try refine run_s ?_
    rw [List.take_of_length_le (by rw [hrow.len.1]; exact Nat.le_refl _)] at hg
    exact sk_ret (D ++ F.flatten) sym rfl (.cons (.tmp rfl) .nil) uc sb (.inl rfl) ⟨⟨D, F, _, _, svs, rfl, rfl, hrow, hg⟩, uc⟩
end Go.Proofs.Ytlnmhjkagnfnaaa
