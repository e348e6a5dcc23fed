/- Walks of arith and of its reference: inverses modulo primes. -/
import Derived.Test.YtpigpikhjlmdoaaB155
namespace Go.Proofs.Ytpigpikhjlmdoaa
open Go.Hp
open Go.Fq (Pm Fp Prm)
variable {G : World} {U : UH} {M : MH}

/-- A quotient, cut towards nought. -/
theorem _root_.Go.Hp.yl_quo {P : Program} {N : Nat} {E : Env} {o : Oper} {ty yt : Nat} {x y : Operand} {k : IntKind} {a b : Int} (ho : o.op = .binOp .quo ty x y yt) (hx : ev E x = some (.int k a)) (hy : ev E y = some (.int k b))
    (h : b ≠ 0) : Yl P N G o E U M (.int k (k.wrap (a.tdiv b))) := by
  refine yl_bin ho hx hy (funext fun w => ?_)
  simp [binOp, Op.intDiv, h]

theorem fp_bd {P : Pm} (a b : Fp P) (hp : P.1 ≤ 2147483647) : 0 ≤ (a.v : Int) * (b.v : Int) ∧ (a.v : Int) * (b.v : Int) ≤ 4611686014132420609 := by
  have h1 := a.lt
  have h2 := b.lt
  have h3 : a.v * b.v ≤ 2147483647 * 2147483647 := Nat.mul_le_mul (by omega) (by omega)
  rw [← Int.natCast_mul]
  omega

theorem ainRange_ct {z : Int} (h0 : 1 ≤ z) (h1 : z ≤ 2147483647) :
    Ct Try.prog 120 [.int .i64 z] G U M fun v U' D => v = .bool true ∧ U = U' ∧ D = [] := by
  refine ct_of_st Try.func120 rfl rfl rfl rfl ?_
  repeat (first | refine run_S ?_ | refine w_box (fun _ => ?_) | refine w_al (fun _ => ?_))
  refine sl_gdec rfl rfl (fun _ => ?_) (fun h => absurd h (by omega))
  repeat (first | refine run_S ?_ | refine w_box (fun _ => ?_) | refine w_al (fun _ => ?_))
  exact sk_ret [] sym rfl (.cons (.tmp rfl) .nil) (ULe.refl _) sb (.inl rfl) ⟨by rw [dec_true h1]; rfl, rfl, rfl⟩

theorem aXgcd_ct {P : Pm} {a : Fp P} (ha : a ≠ 0) (hp : P.1 ≤ 2147483647) :
    Ct Try.prog 121 [.int .i64 (a.v : Int), .int .i64 (P.1 : Int)] G U M fun v U' D => ∃ w : Int, v = .tuple #[.int .i64 1, .int .i64 (a⁻¹.v : Int), .int .i64 w, .int .i64 0] ∧ U = U' ∧ D = [] := by
  have hp2 := P.2.two
  have hal := a.lt
  refine ct_of_st Try.func121 rfl rfl rfl rfl ?_
  repeat (first | refine run_S ?_ | refine w_box (fun _ => ?_) | refine w_al (fun _ => ?_))
  refine sl_gdec rfl rfl (fun h => absurd h (by omega)) (fun _ => ?_)
  repeat (first | refine run_S ?_ | refine w_box (fun _ => ?_) | refine w_al (fun _ => ?_))
  refine sl_gdec rfl rfl (fun h => absurd h (by omega)) (fun _ => ?_)
  repeat (first | refine run_S ?_ | refine w_box (fun _ => ?_) | refine w_al (fun _ => ?_))
  refine sl_gdec rfl rfl (fun h => absurd h (by omega)) (fun _ => ?_)
  repeat (first | refine run_S ?_ | refine w_box (fun _ => ?_) | refine w_al (fun _ => ?_))
  refine st_dec rfl (fun h => absurd h (by omega)) (fun _ => ?_)
  repeat (first | refine run_S ?_ | refine w_box (fun _ => ?_) | refine w_al (fun _ => ?_))
  refine st_eq rfl (fun h => absurd h (by omega)) (fun _ => ?_)
  repeat (first | refine run_S ?_ | refine w_box (fun _ => ?_) | refine w_al (fun _ => ?_))
  try refine st_anti (M' := M) (ULe.refl _) sbk ?_
  refine st_loop (fun z E U' M' => ∃ (g r : Nat) (u x e : Int), Fq.Eu (a.v : Int) (P.1 : Int) (g : Int) (r : Int) u x e ∧ (-(P.1 : Int) ≤ x ∧ x ≤ (P.1 : Int)) ∧ g ≤ P.1 ∧ r ≤ P.1 ∧ U = U' ∧ E = [(4, .int .i64 (g : Int)), (9, .int .i64 (r : Int)), (5, .int .i64 u), (8, .int .i64 x), (0, .int .i64 (a.v : Int)), (1, .int .i64 (P.1 : Int))] ∧ ULe U U' ∧ M' = M ∧ z = r) (n0 := P.1) (E0 := [(4, .int .i64 ((a.v : Nat) : Int)), (9, .int .i64 ((P.1 : Nat) : Int)), (5, .int .i64 1), (8, .int .i64 0), (0, .int .i64 (a.v : Int)), (1, .int .i64 (P.1 : Int))]) ⟨rfl, rfl, rfl, rfl, rfl, rfl, trivial⟩ ⟨a.v, P.1, 1, 0, 1, Fq.Eu.start (by omega) (by omega), by omega, by omega, by omega, rfl, rfl, uc, rfl, rfl⟩ ?_
  rintro z E U1 M' ⟨g, r, u, x, e, hE, hx, hg, hr, rfl, rfl, hU1, rfl, hzL⟩
  try refine run_s ?_
  refine st_ne rfl (fun h1 => ?_) (fun h1 => ?_)
  · have hdm := Nat.div_add_mod g r
    have hlt := Nat.mod_lt g (show 0 < r by omega)
    obtain ⟨q, hq⟩ : ∃ q, g / r = q := ⟨_, rfl⟩
    obtain ⟨s, hs⟩ : ∃ s, g % r = s := ⟨_, rfl⟩
    rw [hq, hs] at hdm
    rw [hs] at hlt
    have hgr : (g : Int) = (q : Int) * (r : Int) + (s : Int) := by
      rw [← Int.natCast_mul, Nat.mul_comm]; omega
    have hS := hE.step (q := (q : Int)) (s := (s : Int)) (by omega) hgr (by omega) (by omega) hx
    have hV := hS.vb (by omega)
    have hub := hE.ub
    have hm1 : 0 ≤ (q : Int) * (r : Int) ∧ (q : Int) * (r : Int) ≤ P.1 := by
      have := Int.mul_nonneg (show (0 : Int) ≤ q by omega) (show (0 : Int) ≤ r by omega)
      omega
    have hm2 : -(2 * (P.1 : Int)) ≤ (q : Int) * x ∧ (q : Int) * x ≤ 2 * (P.1 : Int) := by omega
    try refine run_s ?_
    refine sl_y (yl_quoN (m := g) (n := r) (q := q) rfl rfl rfl rfl rfl (by simp only [kmax]; omega) (by omega) hq) rfl rfl rfl rfl ?_
    try refine run_s ?_
    rw [show (g : Int) - (q : Int) * (r : Int) = (s : Int) by omega]
    exact sk_again (E' := [(4, .int .i64 ((r : Nat) : Int)), (9, .int .i64 ((s : Nat) : Int)), (5, .int .i64 x), (8, .int .i64 (u - (q : Int) * x)), (0, .int .i64 (a.v : Int)), (1, .int .i64 (P.1 : Int))]) (m := s) ⟨rfl, rfl, rfl, rfl, rfl, rfl, trivial⟩ (by omega) ⟨r, s, x, u - (q : Int) * x, -e, hS, hV, by omega, by omega, rfl, rfl, uc, rfl, rfl⟩
  · have hr0 : r = 0 := by omega
    subst hr0
    obtain ⟨h2, h3⟩ := hE.inv ha
    have hg1 : g = 1 := by omega
    subst hg1
    have hub := hE.ub
    try refine run_s ?_
    refine st_dec rfl (fun h => absurd h (by omega)) (fun _ => ?_)
    try refine run_s ?_
    have e1 : IntKind.i64.wrap ((if IntKind.i64.wrap (0 - (P.1 : Int)) > (P.1 : Int) then IntKind.i64.wrap (0 - (P.1 : Int)) else (P.1 : Int)).tdiv ((1 : Nat) : Int)) = (P.1 : Int) := by
      have e2 : IntKind.i64.wrap (0 - (P.1 : Int)) = 0 - (P.1 : Int) := IntWalk.i64_in _ (by omega)
      rw [e2, if_neg (by omega)]
      have e3 : (P.1 : Int).tdiv ((1 : Nat) : Int) = (P.1 : Int) := Int.tdiv_one _
      rw [e3]
      exact IntWalk.i64_in _ (by omega)
    rw [e1]
    refine sl_call rfl rfl rfl rfl rfl rfl (fun _ => aResidue_ct (z := u) (m := (P.1 : Int)) (by omega) (by omega)) ?_
    rintro v U' D hU ⟨rfl, rfl, rfl⟩
    repeat (first | refine run_S ?_ | refine w_box (fun _ => ?_) | refine w_al (fun _ => ?_))
    have hu : u % (P.1 : Int) = (a⁻¹.v : Int) := by rw [← h3, Fq.of_val]
    rw [hu]
    have hb := fp_bd a⁻¹ a hp
    try refine run_s ?_
    refine st_draw [0, 1, 2, 3, 4, 5, 6, 7, 8, 9, 10, 11, 12] sym (by kernel_rfl) ?_
    try refine run_s ?_
    refine sl_y (yl_quo (k := .i64) rfl rfl rfl (by omega)) rfl rfl rfl rfl ?_
    try refine run_s ?_
    exact sk_ret [] sym rfl (.cons (.tmp rfl) (.cons (.tmp rfl) (.cons (.tmp rfl) (.cons (.tmp rfl) .nil)))) uc sb (.inl rfl) ⟨_, rfl, rfl, rfl⟩

theorem aInverse_ct {P : Pm} {a : Fp P} (ha : a ≠ 0) (hp : P.1 ≤ 2147483647) :
    Ct Try.prog 116 [.int .i64 (a.v : Int), .int .i64 (P.1 : Int)] G U M fun v U' D => v = .tuple #[.int .i64 (a⁻¹.v : Int), .int .i64 0] ∧ U = U' ∧ D = [] := by
  have hp2 := P.2.two
  have hal := a.lt
  refine ct_of_st Try.func116 rfl rfl rfl rfl ?_
  repeat (first | refine run_S ?_ | refine w_box (fun _ => ?_) | refine w_al (fun _ => ?_))
  refine sl_call rfl rfl rfl rfl rfl rfl (fun _ => ainRange_ct (z := (P.1 : Int)) (by omega) (by omega)) ?_
  rintro v U' D hU ⟨rfl, rfl, rfl⟩
  repeat (first | refine run_S ?_ | refine w_box (fun _ => ?_) | refine w_al (fun _ => ?_))
  repeat (first | refine run_S ?_ | refine w_box (fun _ => ?_) | refine w_al (fun _ => ?_))
  refine sl_call rfl rfl rfl rfl rfl rfl (fun _ => aResidue_ct (z := (a.v : Int)) (m := (P.1 : Int)) (by omega) (by omega)) ?_
  rintro v U' D hU ⟨rfl, rfl, rfl⟩
  repeat (first | refine run_S ?_ | refine w_box (fun _ => ?_) | refine w_al (fun _ => ?_))
  rw [Int.emod_eq_of_lt (by omega) (by omega)]
  refine sl_call rfl rfl rfl rfl rfl rfl (fun _ => aXgcd_ct ha hp) ?_
  rintro v U' D hU ⟨w, rfl, rfl, rfl⟩
  repeat (first | refine run_S ?_ | refine w_box (fun _ => ?_) | refine w_al (fun _ => ?_))
  refine st_ne rfl (fun h => absurd rfl h) (fun _ => ?_)
  repeat (first | refine run_S ?_ | refine w_box (fun _ => ?_) | refine w_al (fun _ => ?_))
  exact sk_ret [] sym rfl (.cons (.tmp rfl) (.cons (.tmp rfl) .nil)) uc sb (.inl rfl) ⟨rfl, rfl, rfl⟩
theorem fInverse_ct {P : Pm} {a : Fp P} (ha : a ≠ 0) (hp : P.1 ≤ 2147483647) :
    Ct Try.prog 100 [.int .i64 (a.v : Int), .int .i64 (P.1 : Int)] G U M fun v U' D => v = .int .i64 (a⁻¹.v : Int) ∧ U = U' ∧ D = [] := by
  refine ct_of_st Try.func100 rfl rfl rfl rfl ?_
  repeat (first | refine run_S ?_ | refine w_box (fun _ => ?_) | refine w_al (fun _ => ?_))
  refine sl_call rfl rfl rfl rfl rfl rfl (fun _ => aInverse_ct ha hp) ?_
  rintro v U' D hU ⟨rfl, rfl, rfl⟩
  repeat (first | refine run_S ?_ | refine w_box (fun _ => ?_) | refine w_al (fun _ => ?_))
  exact sk_ret [] sym rfl (.cons (.tmp rfl) .nil) uc sb (.inl rfl) ⟨rfl, rfl, rfl⟩
end Go.Proofs.Ytpigpikhjlmdoaa
