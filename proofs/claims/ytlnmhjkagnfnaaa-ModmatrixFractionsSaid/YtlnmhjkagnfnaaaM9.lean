/- Texts of this seat's own, merged: each begins with its own remark. -/
import Derived.Test.YtlnmhjkagnfnaaaM8
import Derived.Test.YtlnmhjkagnfnaaaM4
import Derived.Test.YtlnmhjkagnfnaaaB38
import Derived.Test.YtlnmhjkagnfnaaaM1
/- Walks: square roots. -/
namespace Go.Proofs.Ytlnmhjkagnfnaaa
open Go.Hp
variable {G : World} {U : UH} {M : MH}

theorem four_mul {a b : Nat} : 4 * (a * b) ≤ (a + b) * (a + b) := by
  rcases Nat.le_total a b with h | h
  · obtain ⟨d, rfl⟩ : ∃ d, b = a + d := ⟨b - a, by omega⟩
    have : (a + (a + d)) * (a + (a + d)) = 4 * (a * (a + d)) + d * d := by grind
    omega
  · obtain ⟨d, rfl⟩ : ∃ d, a = b + d := ⟨a - b, by omega⟩
    have : (b + d + b) * (b + d + b) = 4 * ((b + d) * b) + d * d := by grind
    omega

/-- Newton's step from above stays above. -/
theorem newton {A x t : Nat} (hx : 0 < x) (h : t * t ≤ A) : t ≤ (x + A / x) / 2 := by
  rcases Nat.lt_or_ge ((x + A / x) / 2) t with hlt | hge
  · exfalso
    have h1 : A < (A / x + 1) * x := by
      have := Nat.mod_lt A hx
      have h2 := Nat.div_add_mod A x
      rw [Nat.add_mul, Nat.mul_comm (A / x)]
      omega
    have h2 : x + A / x + 1 ≤ 2 * t := by omega
    have h3 := four_mul (a := A / x + 1) (b := x)
    have h4 : (A / x + 1 + x) * (A / x + 1 + x) ≤ (2 * t) * (2 * t) := Nat.mul_le_mul (by omega) (by omega)
    have h5 : (2 * t) * (2 * t) = 4 * (t * t) := by grind
    omega
  · exact hge

theorem newton_end {A x : Nat} (h : x ≤ (x + A / x) / 2) : x * x ≤ A := by
  have h1 : x ≤ A / x := by omega
  exact Nat.le_trans (Nat.mul_le_mul_right x h1) (Nat.div_mul_le_self A x)

theorem own_zero : zeroIV.own [] 0 := ⟨[], Own.nil, Cn.nil, rfl, rfl⟩

theorem rot44 {α : Type} {R : List α} {o p q r x y z u : α} : (o :: p :: q :: r :: x :: y :: z :: u :: R).Perm (x :: y :: z :: u :: o :: p :: q :: r :: R) := perm4 (D := [o, p, q, r]) (M := R)

theorem Sqrt_ct {x : IV} {z : Int} (hx : x.rep U M z) (hn : x.n ≤ 1000) :
    Ct Try.prog 44 [x.v] G U M fun v U' D => ∃ (r : IV) (b : Bool) (e : Int), v = .tuple #[r.v, .bool b, .int .i64 e] ∧ (z < 0 → e = 2 ∧ b = false ∧ r = zeroIV ∧ D = []) ∧
      (0 ≤ z → e = 0 ∧ ∃ R : Nat, r.own D (R : Int) ∧ R * R ≤ z.natAbs ∧ z.natAbs < (R + 1) * (R + 1) ∧ (b = true ↔ R * R = z.natAbs)) ∧ ULe U U' := by
  have hUc := ULe.refl U
  refine ct_of_st Try.func44 rfl rfl rfl rfl ?_
  repeat (first | refine run_S ?_ | refine w_box (fun _ => ?_) | refine w_al (fun _ => ?_))
  rename_i b1 b2
  refine sl_call rfl rfl rfl rfl rfl rfl (fun _ => Sign_ct (hx.up hUc sb) (Nat.le_trans hn (by decide))) ?_
  rintro v U' D hU ⟨rfl, rfl, rfl⟩
  repeat (first | refine run_S ?_ | refine w_box (fun _ => ?_) | refine w_al (fun _ => ?_))
  by_cases hz : z < 0
  · refine st_dec rfl (fun _ => ?_) (fun h => absurd (by rw [Int.sign_eq_neg_one_of_neg hz]; decide) h)
    repeat (first | refine run_S ?_ | refine w_box (fun _ => ?_) | refine w_al (fun _ => ?_))
    exact sk_ret [] sym rfl (.cons (.cell 0 rfl rfl rfl) (.cons (.tmp rfl) (.cons (.tmp rfl) .nil))) hUc sb (.inl rfl) ⟨zeroIV, false, 2, rfl, fun _ => ⟨rfl, rfl, rfl, rfl⟩, fun h => absurd hz (by omega), hUc⟩
  refine st_dec rfl (fun h => absurd h (by have := Int.sign_nonneg_iff.2 (show (0 : Int) ≤ z by omega); omega)) (fun _ => ?_)
  obtain ⟨A, rfl⟩ : ∃ A : Nat, z = (A : Int) := ⟨z.toNat, by omega⟩
  have sA := hx.sz (Nat.le_refl _)
  have hbA : blen ((A : Int)).natAbs ≤ 32 * x.n := by
    obtain ⟨l, hd, hl⟩ := hx
    rw [hl, sg_natAbs, ← hd.len]
    exact blen_val_le hd.bd
  have hbA0 := hbA
  rw [Int.natAbs_natCast] at hbA ⊢
  have hAb := blen_lt A
  obtain ⟨K, hK⟩ : ∃ K, (blen A + 1) / 2 = K := ⟨_, rfl⟩
  have hK16 : K ≤ 16 * x.n + 1 := by omega
  have e1 : IntKind.i64.wrap (((blen ((A : Int)).natAbs : Int) + 1).tdiv 2) = ((K : Nat) : Int) := by
    rw [Int.natAbs_natCast, Int.tdiv_eq_ediv_of_nonneg (by omega), wrap_in (by omega) (by simp only [kmax]; omega)]; omega
  have hA2 : A < 2 ^ K * 2 ^ K := by
    rw [← Nat.pow_add]
    exact Nat.lt_of_lt_of_le hAb (Nat.pow_le_pow_right (by decide) (by omega))
  have hb2 : blen ((2 : Int)).natAbs = 2 := blen_of (k := 1) (by decide) (by decide)
  have s2 : Sz 2 1 := by unfold Sz; decide
  repeat (first | refine run_S ?_ | refine w_box (fun _ => ?_) | refine w_al (fun _ => ?_))
  refine st_draw [1, 0, 2, 3, 4, 5, 6, 7, 8, 9, 10, 11] sym (by kernel_rfl) ?_
  repeat (first | refine run_S ?_ | refine w_box (fun _ => ?_) | refine w_al (fun _ => ?_))
  refine sl_call rfl rfl rfl rfl rfl rfl (fun _ => Of_ct (z := 2) (by decide) (by decide)) ?_
  rintro v U' Dh2 hU ⟨xh2, rfl, h2, rfl⟩
  refine sl_perm ?_ (perm2 (D := Dh2))
  repeat (first | refine run_S ?_ | refine w_box (fun _ => ?_) | refine w_al (fun _ => ?_))
  refine sl_call rfl rfl rfl rfl rfl rfl (fun _ => Bits_ct (hx.up hUc sb) (Nat.le_trans hn (by decide))) ?_
  rintro v U' D hU ⟨rfl, rfl, rfl⟩
  repeat (first | refine run_S ?_ | refine w_box (fun _ => ?_) | refine w_al (fun _ => ?_))
  rw [e1]
  refine sl_call rfl rfl rfl rfl rfl rfl (fun _ => Pow_ct (h2.at sb).rep (h2.le s2 (by decide)) (by omega) (by omega)) ?_
  rintro v U' D3 hU ⟨r, e, rfl, -, -, hP, rfl⟩
  obtain ⟨rfl, h3⟩ := hP (by omega) (by rw [hb2, Int.toNat_natCast]; omega)
  rw [Int.toNat_natCast, show (2 : Int) ^ K = ((2 ^ K : Nat) : Int) by simp] at h3
  refine sl_perm ?_ (perm2 (D := D3))
  repeat (first | refine run_S ?_ | refine w_box (fun _ => ?_) | refine w_al (fun _ => ?_))
  rename_i b5
  refine sl_call rfl rfl rfl rfl rfl rfl (fun _ => Of_ct (z := 2) (by decide) (by decide)) ?_
  rintro v U' Dh4 hU ⟨xh4, rfl, h4, rfl⟩
  refine sl_perm ?_ (perm3 (D := Dh4))
  repeat (first | refine run_S ?_ | refine w_box (fun _ => ?_) | refine w_al (fun _ => ?_))
  rename_i b7
  refine st_perm swp4 ?_
  refine st_loop (fun m E U' M' => ∃ (X : Nat) (xv : IV) (D Y : MH), (∀ t, t * t ≤ A → t ≤ X) ∧ X ≤ 2 ^ K ∧ xv.own D (X : Int) ∧ E = [(5, .pointer (some ⟨b5, 0, none⟩)), (7, .pointer (some ⟨b7, 0, none⟩)), (1, .pointer (some ⟨b1, 0, none⟩)), (2, .pointer (some ⟨b2, 0, none⟩))] ∧ ULe U U' ∧
      M' = (b7, .var xh4.v, 24) :: (b5, .var xv.v, 24) :: (b2, .var (.agg #[.bool false, .slice none 0 0]), 24) :: (b1, .var x.v, 24) :: (D ++ Y) ∧ M.Sublist Y ∧ Dh4.Sublist Y ∧ X = m) (n0 := 2 ^ K)
    (E0 := [(5, .pointer (some ⟨b5, 0, none⟩)), (7, .pointer (some ⟨b7, 0, none⟩)), (1, .pointer (some ⟨b1, 0, none⟩)), (2, .pointer (some ⟨b2, 0, none⟩))]) ⟨rfl, rfl, rfl, rfl, trivial⟩
    ⟨2 ^ K, r, D3, Dh4 ++ (Dh2 ++ M), fun t ht => by
      rcases Nat.lt_or_ge (2 ^ K) t with h | h
      · have := Nat.mul_le_mul (Nat.le_of_lt h) (Nat.le_of_lt h); omega
      · exact h, Nat.le_refl _, h3, rfl, hUc, rfl, sb, sb, rfl⟩ ?_
  clear hUc h3
  rintro m E U' M' ⟨X, xv, D, Y, hup, hXK, hxv, rfl, hUc, rfl, hM, hD4, rfl⟩
  have sX : Sz (X : Int) (x.n + 1) := by
    unfold Sz
    rw [Int.natAbs_natCast]
    have h1 : 2 ^ K < 2 ^ (32 * (x.n + 1)) := Nat.pow_lt_pow_right (by decide) (by omega)
    rw [Nat.pow_mul] at h1
    exact Nat.lt_of_le_of_lt hXK h1
  repeat (first | refine run_S ?_ | refine w_box (fun _ => ?_) | refine w_al (fun _ => ?_))
  refine sl_call rfl rfl rfl rfl rfl rfl (fun _ => DivMod_ct (hx.up hUc (hM.trans sb)) (Nat.le_trans hn (by decide)) (hxv.at sb).rep (hxv.le sX (by omega))) ?_
  rintro v U1 D1 hU ⟨q, r', e, Dq, Dr, rfl, rfl, g1, g0, -⟩
  replace hUc := hUc.trans hU
  have hq : q.own Dq (((A / X : Nat) : Int)) := by
    by_cases hX0 : X = 0
    · obtain ⟨-, rfl, -, rfl, -⟩ := g0 (by rw [hX0]; rfl)
      rw [hX0, Nat.div_zero]; exact own_zero
    · obtain ⟨-, h, -⟩ := g1 (by omega)
      rwa [← Int.natCast_ediv] at h
  have sq : Sz ((A / X : Nat) : Int) (x.n + 1) := by
    rw [Int.natCast_ediv]; exact (sA.div _).mono (by omega)
  clear g0 g1
  refine sl_perm ?_ (perm4 (D := Dr ++ Dq))
  repeat (first | refine run_S ?_ | refine w_box (fun _ => ?_) | refine w_al (fun _ => ?_))
  rename_i b8 b9
  have h20 : (2 : Int) ≠ 0 := by decide
  refine st_draw [0, 1, 3, 2, 4, 5, 6, 7, 8, 9, 10, 11, 12, 13] sym (by kernel_rfl) ?_
  repeat (first | refine run_S ?_ | refine w_box (fun _ => ?_) | refine w_al (fun _ => ?_))
  refine sl_call rfl rfl rfl rfl rfl rfl (fun _ => Add_ct (hxv.at sb).rep (hxv.le sX (by omega)) (hq.at sb).rep (hq.le sq (by omega))) ?_
  rintro v U' Dh6 hU ⟨xh6, rfl, h6, rfl⟩
  refine sl_perm ?_ (perm6 (D := Dh6))
  repeat (first | refine run_S ?_ | refine w_box (fun _ => ?_) | refine w_al (fun _ => ?_))
  refine sl_call rfl rfl rfl rfl rfl rfl (fun _ => DivMod_ct (h6.at sb).rep (h6.le (sX.add sq) (by omega)) (h4.at (hD4.trans sb)).rep (h4.le s2 (by decide))) ?_
  rintro v Ur7 D hU ⟨xq7, xr7, ev, Dq7, Dr7, rfl, rfl, hdm, -, -⟩
  obtain ⟨rfl, q7, r7⟩ := hdm h20
  replace hUc := hUc.trans hU
  rw [List.append_assoc]
  refine sl_perm ?_ ((List.Perm.append_left Dr7 (perm6 (D := Dq7))).trans (perm6 (D := Dr7)))
  repeat (first | refine run_S ?_ | refine w_box (fun _ => ?_) | refine w_al (fun _ => ?_))
  rename_i b11 b12
  rw [show ((X : Int) + ((A / X : Nat) : Int)) / 2 = (((X + A / X) / 2 : Nat) : Int) by omega] at q7
  generalize hQ : A / X = Q at *
  have s7 : Sz (((X + Q) / 2 : Nat) : Int) (x.n + 2) := by
    have h1 := (sX.add sq).div 2
    rwa [show ((X : Int) + (Q : Int)) / 2 = (((X + Q) / 2 : Nat) : Int) by omega] at h1
  refine sl_call rfl rfl rfl rfl rfl rfl (fun _ => Cmp_ct (q7.at sb).rep (q7.le s7 (by omega)) (hxv.at sb).rep (hxv.le sX (by omega))) ?_
  rintro v U' D hU ⟨rfl, rfl, rfl⟩
  repeat (first | refine run_S ?_ | refine w_box (fun _ => ?_) | refine w_al (fun _ => ?_))
  refine st_dec rfl (fun h5 => ?_) (fun h5 => ?_)
  · have hge : X ≤ (X + Q) / 2 := by
      have := Int.sign_nonneg_iff.1 h5
      omega
    have hXX : X * X ≤ A := by
      rcases Nat.eq_zero_or_pos X with h | h
      · subst h; omega
      · exact newton_end (by rw [hQ]; exact hge)
    have hlt : A < (X + 1) * (X + 1) := by
      rcases Nat.lt_or_ge A ((X + 1) * (X + 1)) with h | h
      · exact h
      · have := hup _ h; omega
    repeat (first | refine run_S ?_ | refine w_box (fun _ => ?_) | refine w_al (fun _ => ?_))
    refine st_draw2 6 7 [0, 1, 2, 4, 3, 5, 6, 7, 8, 9] [0, 1, 2, 4, 3, 5, 7, 6, 8, 9] sym (by kernel_rfl) (by kernel_rfl) (by kernel_rfl) ?_ ?_
    all_goals
      repeat (first | refine run_S ?_ | refine w_box (fun _ => ?_) | refine w_al (fun _ => ?_))
      refine sl_call rfl rfl rfl rfl rfl rfl (fun _ => Mul_ct (hxv.at sb).rep (hxv.le sX (by omega)) (hxv.at sb).rep (hxv.le sX (by omega))) ?_
      rintro v U' Dh9 hU ⟨xh9, rfl, h9, rfl⟩
      refine sl_perm ?_ (perm8 (D := Dh9))
      repeat (first | refine run_S ?_ | refine w_box (fun _ => ?_) | refine w_al (fun _ => ?_))
      refine sl_call rfl rfl rfl rfl rfl rfl (fun _ => Cmp_ct (h9.at sb).rep (h9.le (sX.mul sX) (by omega)) (hx.up hUc (hM.trans sb)) (Nat.le_trans hn (by decide))) ?_
      rintro v U' D hU ⟨rfl, rfl, rfl⟩
      repeat (first | refine run_S ?_ | refine w_box (fun _ => ?_) | refine w_al (fun _ => ?_))
      refine sk_ret D sym rfl (.cons (.cell 6 rfl rfl rfl) (.cons (.tmp rfl) (.cons (.tmp rfl) .nil))) hUc ((List.Sublist.append (List.Sublist.refl D) hM).trans sb) (.inl rfl)
        ⟨xv, dec (((X : Int) * (X : Int) - (A : Int)).sign = 0), 0, rfl, fun h => absurd h hz, fun _ => ⟨rfl, X, hxv, hXX, hlt, ?_⟩, hUc⟩
      rw [dec_eq, decide_eq_true_iff, Int.sign_eq_zero_iff_zero, ← Int.natCast_mul]
      omega
  · have hlt : (X + Q) / 2 < X := by
      rcases Nat.lt_or_ge ((X + Q) / 2) X with h | h
      · exact h
      · exact absurd (Int.sign_nonneg_iff.2 (by omega)) h5
    repeat (first | refine run_S ?_ | refine w_box (fun _ => ?_) | refine w_al (fun _ => ?_))
    refine sk_perm rot44 ?_
    refine sk_perm (List.Perm.cons _ (List.Perm.cons _ (List.Perm.cons _ (List.Perm.cons _ (swp4.trans (perm4 (D := Dq7)).symm))))) ?_
    exact sk_again (E' := [(5, .pointer (some ⟨b5, 0, none⟩)), (7, .pointer (some ⟨b7, 0, none⟩)), (1, .pointer (some ⟨b1, 0, none⟩)), (2, .pointer (some ⟨b2, 0, none⟩))]) (m := (X + Q) / 2) ⟨rfl, rfl, rfl, rfl, trivial⟩ hlt
      ⟨(X + Q) / 2, xq7, Dq7, _, fun t ht => by
        rcases Nat.eq_zero_or_pos X with h | h
        · omega
        · have := newton h ht
          rwa [hQ] at this, by omega, q7, rfl, hUc, rfl, hM.trans sb, hD4.trans sb, rfl⟩

end Go.Proofs.Ytlnmhjkagnfnaaa

/- Walks of the reference of layer 1: square roots. -/
namespace Go.Proofs.Ytlnmhjkagnfnaaa
open Go.Hp
variable {G : World} {U : UH} {M : MH}

theorem sign_le {z : Int} : z.sign ≤ 0 ↔ z ≤ 0 := by
  constructor
  · intro h
    rcases Int.lt_trichotomy z 0 with h1 | h1 | h1
    · omega
    · omega
    · rw [Int.sign_eq_one_of_pos h1] at h; omega
  · intro h
    rcases Int.lt_trichotomy z 0 with h1 | h1 | h1
    · rw [Int.sign_eq_neg_one_of_neg h1]; omega
    · rw [h1]; decide
    · omega

theorem rRoot_ct {x : IV} {A : Nat} (hx : x.rep U M (A : Int)) (hn : x.n ≤ 1000) :
    Ct Try.prog 28 [x.v] G U M fun v U' D => ∃ (r : IV) (R : Nat), v = r.v ∧ r.own D (R : Int) ∧ R * R ≤ A ∧ A < (R + 1) * (R + 1) ∧ U = U' := by
  have hUc := ULe.refl U
  have sA := hx.sz (Nat.le_refl _)
  have hbA : blen ((A : Int)).natAbs ≤ 32 * x.n := by
    obtain ⟨l, hd, hl⟩ := hx
    rw [hl, sg_natAbs, ← hd.len]
    exact blen_val_le hd.bd
  have hbA0 := hbA
  rw [Int.natAbs_natCast] at hbA
  have hAb := blen_lt A
  obtain ⟨K, hK⟩ : ∃ K, blen A / 2 + 1 = K := ⟨_, rfl⟩
  have hK16 : K ≤ 16 * x.n + 1 := by omega
  have e1 : IntKind.i64.wrap (IntKind.i64.wrap ((blen ((A : Int)).natAbs : Int).tdiv 2) + 1) = ((K : Nat) : Int) := by
    rw [Int.natAbs_natCast, Int.tdiv_eq_ediv_of_nonneg (by omega), wrap_in (k := .i64) (n := (blen A : Int) / 2) (by omega) (by simp only [kmax]; omega), wrap_in (by omega) (by simp only [kmax]; omega)]; omega
  have hA2 : A < 2 ^ (K + 1) * 2 ^ (K + 1) := by
    rw [← Nat.pow_add]
    exact Nat.lt_of_lt_of_le hAb (Nat.pow_le_pow_right (by decide) (by omega))
  have hb2 : blen ((2 : Int)).natAbs = 2 := blen_of (k := 1) (by decide) (by decide)
  have s2 : Sz 2 1 := by unfold Sz; decide
  refine ct_of_st Try.func28 rfl rfl rfl rfl ?_
  repeat (first | refine run_S ?_ | refine w_box (fun _ => ?_) | refine w_al (fun _ => ?_))
  rename_i b1 b2
  refine sl_call rfl rfl rfl rfl rfl rfl (fun _ => rOf_ct (z := 0) (by decide) (by decide)) ?_
  rintro v U' Dh2 hU ⟨xh2, rfl, h2, rfl⟩
  refine sl_perm ?_ (perm2 (D := Dh2))
  repeat (first | refine run_S ?_ | refine w_box (fun _ => ?_) | refine w_al (fun _ => ?_))
  rename_i b3
  refine sl_call rfl rfl rfl rfl rfl rfl (fun _ => rBits_ct (hx.up hUc sb) (Nat.le_trans hn (by decide))) ?_
  rintro v U' D hU ⟨rfl, rfl, rfl⟩
  repeat (first | refine run_S ?_ | refine w_box (fun _ => ?_) | refine w_al (fun _ => ?_))
  rw [e1]
  refine st_loop (fun m E U' M' => ∃ (j R : Nat) (xv : IV) (D T : MH), j ≤ K + 1 ∧ R * R ≤ A ∧ A < (R + 2 ^ j) * (R + 2 ^ j) ∧ xv.own D (R : Int) ∧ E = [(4, .int .i64 ((j : Int) - 1)), (3, .pointer (some ⟨b3, 0, none⟩)), (1, .pointer (some ⟨b1, 0, none⟩)), (2, .pointer (some ⟨b2, 0, none⟩))] ∧ U = U' ∧
      M' = (b3, .var xv.v, 24) :: (b2, .var (.agg #[.bool false, .slice none 0 0]), 24) :: (b1, .var x.v, 24) :: T ∧ (D ++ M).Sublist T ∧ j = m) (n0 := K + 1)
    (E0 := [(4, .int .i64 (K : Int)), (3, .pointer (some ⟨b3, 0, none⟩)), (1, .pointer (some ⟨b1, 0, none⟩)), (2, .pointer (some ⟨b2, 0, none⟩))]) ⟨rfl, rfl, rfl, rfl, trivial⟩
    ⟨K + 1, 0, xh2, Dh2, Dh2 ++ M, Nat.le_refl _, by omega, by rw [Nat.zero_add]; exact hA2, h2, by rw [show ((K + 1 : Nat) : Int) - 1 = (K : Int) by omega], rfl, rfl, sb, rfl⟩ ?_
  clear h2
  rintro m E U' M' ⟨j, R, xv, D, T, hj, hRA, hAR, hxv, rfl, rfl, rfl, hT, rfl⟩
  have hDT : D.Sublist T := (List.sublist_append_left D M).trans hT
  have hMT : M.Sublist T := (List.sublist_append_right D M).trans hT
  try refine run_s ?_
  refine st_dec rfl (fun h5 => ?_) (fun h5 => ?_)
  · obtain ⟨k, rfl⟩ : ∃ k, j = k + 1 := ⟨j - 1, by omega⟩
    rw [show ((k + 1 : Nat) : Int) - 1 = (k : Int) by omega]
    have hRA2 : R ≤ A := by
      rcases Nat.eq_zero_or_pos R with h | h
      · omega
      · exact Nat.le_trans (Nat.le_mul_of_pos_left R h) hRA
    have sR : Sz (R : Int) (x.n + 2) := (show Sz (R : Int) x.n by
      unfold Sz at sA ⊢
      rw [Int.natAbs_natCast] at sA ⊢
      omega).mono (by omega)
    have sp := sz_pow (z := 2) (K := x.n + 1) hb2 (Nat.le_refl k) (by omega)
    rw [show (2 : Int) ^ k = ((2 ^ k : Nat) : Int) by simp] at sp
    repeat (first | refine run_S ?_ | refine w_box (fun _ => ?_) | refine w_al (fun _ => ?_))
    refine st_draw [0, 2, 1, 3, 4, 5, 6] sym (by kernel_rfl) ?_
    repeat (first | refine run_S ?_ | refine w_box (fun _ => ?_) | refine w_al (fun _ => ?_))
    refine sl_call rfl rfl rfl rfl rfl rfl (fun _ => rOf_ct (z := 2) (by decide) (by decide)) ?_
    rintro v U' Dh3 hU ⟨xh3, rfl, h3, rfl⟩
    refine sl_perm ?_ (perm3 (D := Dh3))
    repeat (first | refine run_S ?_ | refine w_box (fun _ => ?_) | refine w_al (fun _ => ?_))
    refine sl_call rfl rfl rfl rfl rfl rfl (fun _ => rRaised_ct (m := k) (K := x.n + 1) (h3.at sb).rep (h3.le s2 (by decide)) (by omega) (by rw [hb2]; omega) (by omega)) ?_
    rintro v U' Dh4 hU ⟨xh4, rfl, h4, rfl⟩
    refine sl_perm ?_ (perm3 (D := Dh4))
    repeat (first | refine run_S ?_ | refine w_box (fun _ => ?_) | refine w_al (fun _ => ?_))
    rw [show (2 : Int) ^ k = ((2 ^ k : Nat) : Int) by simp] at h4
    refine sl_call rfl rfl rfl rfl rfl rfl (fun _ => rAdd_ct (hxv.at (hDT.trans sb)).rep (hxv.le sR (by omega)) (h4.at sb).rep (h4.le sp (by omega))) ?_
    rintro v U' Dh8 hU ⟨xh8, rfl, h8, rfl⟩
    refine sl_perm ?_ (perm3 (D := Dh8))
    repeat (first | refine run_S ?_ | refine w_box (fun _ => ?_) | refine w_al (fun _ => ?_))
    rename_i b5
    rw [← Int.natCast_add] at h8
    have st := sR.add sp
    rw [← Int.natCast_add] at st
    refine st_draw [0, 1, 3, 2, 4, 5] sym (by kernel_rfl) ?_
    repeat (first | refine run_S ?_ | refine w_box (fun _ => ?_) | refine w_al (fun _ => ?_))
    refine sl_call rfl rfl rfl rfl rfl rfl (fun _ => rMul_ct (h8.at sb).rep (h8.le st (by omega)) (h8.at sb).rep (h8.le st (by omega))) ?_
    rintro v U' Dh6 hU ⟨xh6, rfl, h6, rfl⟩
    refine sl_perm ?_ (perm4 (D := Dh6))
    repeat (first | refine run_S ?_ | refine w_box (fun _ => ?_) | refine w_al (fun _ => ?_))
    refine sl_call rfl rfl rfl rfl rfl rfl (fun _ => rCmp_ct (h6.at sb).rep (h6.le (st.mul st) (by omega)) (hx.up hUc (hMT.trans sb)) (Nat.le_trans hn (by decide))) ?_
    rintro v U' D hU ⟨rfl, rfl, rfl⟩
    repeat (first | refine run_S ?_ | refine w_box (fun _ => ?_) | refine w_al (fun _ => ?_))
    refine st_dec rfl (fun h7 => ?_) (fun h7 => ?_)
    · rw [sign_le, ← Int.natCast_mul] at h7
      repeat (first | refine run_S ?_ | refine w_box (fun _ => ?_) | refine w_al (fun _ => ?_))
      refine sk_perm rot3 ?_
      exact sk_again (E' := [(4, .int .i64 ((k : Int) - 1)), (3, .pointer (some ⟨b3, 0, none⟩)), (1, .pointer (some ⟨b1, 0, none⟩)), (2, .pointer (some ⟨b2, 0, none⟩))]) (m := k) ⟨rfl, rfl, rfl, rfl, trivial⟩ (by omega)
        ⟨k, R + 2 ^ k, xh8, Dh8, _, by omega, by omega, by rw [Nat.add_assoc, ← Nat.two_mul, ← Nat.pow_succ']; exact hAR, h8, rfl, rfl, rfl, .cons _ (sub_r (List.Sublist.append (List.Sublist.refl _) (hMT.trans sb))), rfl⟩
    · rw [sign_le, ← Int.natCast_mul] at h7
      repeat (first | refine run_S ?_ | refine w_box (fun _ => ?_) | refine w_al (fun _ => ?_))
      refine sk_perm rot3 ?_
      exact sk_again (E' := [(4, .int .i64 ((k : Int) - 1)), (3, .pointer (some ⟨b3, 0, none⟩)), (1, .pointer (some ⟨b1, 0, none⟩)), (2, .pointer (some ⟨b2, 0, none⟩))]) (m := k) ⟨rfl, rfl, rfl, rfl, trivial⟩ (by omega)
        ⟨k, R, xv, D, _, by omega, hRA, by omega, hxv, rfl, rfl, rfl, hT.trans sb, rfl⟩
  · have hj0 : j = 0 := by omega
    subst hj0
    repeat (first | refine run_S ?_ | refine w_box (fun _ => ?_) | refine w_al (fun _ => ?_))
    exact sk_ret D sym rfl (.cons (.cell 1 rfl rfl rfl) .nil) hUc (.cons _ (.cons _ (.cons _ hT))) (.inl rfl) ⟨xv, R, rfl, hxv, hRA, hAR, rfl⟩

end Go.Proofs.Ytlnmhjkagnfnaaa
