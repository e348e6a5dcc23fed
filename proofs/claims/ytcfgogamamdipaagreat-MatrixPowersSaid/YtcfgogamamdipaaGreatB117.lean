/- The law of layer 9 on powers. -/
import Derived.Test.YtcfgogamamdipaaGreatB116
namespace Go.Proofs.YtcfgogamamdipaaGreat
open Go.Hp
variable {G : World} {U U' : UH} {M M' : MH}

/-- Sizes of powers. -/
def psz (n b : Nat) : Nat → Nat
  | 0 => 1
  | k + 1 => 1 + n * (psz n b k + b + 1)
theorem psz_ok {n b : Nat} {A : Nat → Nat → Rat} (hA : ∀ i j, i < n → j < n → Szq (A i j) b) : ∀ k i j, i < n → j < n → Szq (mpow n A k i j) (psz n b k)
  | 0, i, j, _, _ => by
    show Szq (La.idm i j) 1
    unfold La.idm
    split
    · exact szq_int1
    · exact szq_int0
  | k + 1, i, j, hi, hj => szq_sm fun l hl => (psz_ok hA k i l hi hl).mul (hA l j hl hj)
theorem psz_bd {n : Nat} (hn : n ≤ 4) : ∀ k, psz n 1 k + 3 ≤ 4 ^ k * 4
  | 0 => by simp [psz]
  | k + 1 => by
    have h1 := psz_bd hn k
    have h2 : n * (psz n 1 k + 1 + 1) ≤ 4 * (psz n 1 k + 1 + 1) := Nat.mul_le_mul_right _ hn
    have e : 4 ^ (k + 1) * 4 = 4 * (4 ^ k * 4) := by rw [Nat.pow_succ, Nat.mul_comm (4 ^ k) 4, Nat.mul_assoc, Nat.mul_comm 4 (4 ^ k)]
    rw [e]; show 1 + n * (psz n 1 k + 1 + 1) + 3 ≤ _
    omega
theorem psz_le {n k : Nat} (hn : n ≤ 4) (hk : k ≤ 11) : psz n 1 k ≤ 16777216 := by
  have h1 := psz_bd hn k
  have h2 : 4 ^ k ≤ 4 ^ 11 := Nat.pow_le_pow_right (by decide) hk
  have h3 : 4 ^ k * 4 ≤ 4 ^ 11 * 4 := Nat.mul_le_mul_right 4 h2
  have : (4 : Nat) ^ 11 * 4 = 16777216 := by decide
  omega

theorem mPower_err {n : Nat} {N : Int} {pa : Option Addr} {cca : Nat} (hN : N < 0 ∨ N > 1000) (hn : n ≤ 1000) :
    Ct Tryz.prog 42 [.agg #[.int .i64 (n : Int), .int .i64 (n : Int), .slice pa (n * n) cca], .int .i64 N] G U M fun v U' D => v = .tuple #[.agg #[.int .i64 0, .int .i64 0, .slice none 0 0], .int .i64 2] ∧ U = U' ∧ D = [] := by
  have hnn : n * n ≤ 1000 * 1000 := Nat.mul_le_mul hn hn
  refine ct_of_st Tryz.func42 rfl rfl rfl rfl ?_
  repeat (first | refine run_S ?_ | refine w_box (fun _ => ?_) | refine w_al (fun _ => ?_))
  refine sl_call rfl rfl rfl rfl rfl rfl (fun _ => msquare_ct (r := (n : Int)) (c := (n : Int)) (n := n * n) (p := pa) (cc := cca) (by omega)) ?_
  rintro v U' D hU ⟨rfl, rfl, rfl⟩
  repeat (first | refine run_S ?_ | refine w_box (fun _ => ?_) | refine w_al (fun _ => ?_))
  rw [decide_eq_true ⟨vld_of (by omega) (by omega), rfl⟩]
  repeat (first | refine run_S ?_ | refine w_box (fun _ => ?_) | refine w_al (fun _ => ?_))
  refine sl_gdec rfl rfl (fun h => ?_) (fun h => ?_)
  · repeat (first | refine run_S ?_ | refine w_box (fun _ => ?_) | refine w_al (fun _ => ?_))
    exact sk_ret [] sym rfl (.cons (.cell 0 rfl rfl rfl) (.cons (.tmp rfl) .nil)) uc sb (.inl rfl) ⟨rfl, rfl, rfl⟩
  · repeat (first | refine run_S ?_ | refine w_box (fun _ => ?_) | refine w_al (fun _ => ?_))
    refine st_dec rfl (fun h => ?_) (fun h => absurd hN (by omega))
    repeat (first | refine run_S ?_ | refine w_box (fun _ => ?_) | refine w_al (fun _ => ?_))
    exact sk_ret [] sym rfl (.cons (.cell 0 rfl rfl rfl) (.cons (.tmp rfl) .nil)) uc sb (.inl rfl) ⟨rfl, rfl, rfl⟩

set_option maxRecDepth 100000 in
theorem MatrixPowers_ct {va : Value} {ra ca : Int} {na : Nat} {fa : Nat → Rat} {N K : Int} (ha : Raw U va ra ca na fa) (hN1 : -9223372036854775808 ≤ N) (hN2 : N ≤ 9223372036854775807) (hK1 : -9223372036854775808 ≤ K) (hK2 : K ≤ 9223372036854775807) :
    Ct Tryz.prog 7 [va, .int .i64 N, .int .i64 K] G U M fun v _ _ => v = .bool true := by
  have ha0 := ha
  obtain ⟨ha1, ha2, ha3, _, rfl, pa, cca, asa, rfl, -⟩ := ha
  refine ct_of_st Tryz.func7 rfl rfl rfl rfl ?_
  repeat (first | refine run_S ?_ | refine w_box (fun _ => ?_) | refine w_al (fun _ => ?_))
  rename_i b2
  refine sl_call rfl rfl rfl rfl rfl rfl (fun _ => awake9_ct) ?_
  rintro v1 U1 D hU1 ⟨rfl, -, rfl⟩
  rw [List.nil_append]
  repeat (first | refine run_S ?_ | refine w_box (fun _ => ?_) | refine w_al (fun _ => ?_))
  refine sl_bslice (vs := [.agg #[.int .i64 ra, .int .i64 ca, .slice pa na cca]]) sym rfl rfl rfl rfl rfl rfl (all_size rfl) rfl rfl rfl rfl rfl rfl (fun bl => ?_)
  have hrl := (RowO.mk (e := TM) (s := 3) (b := bl) (n := 1) (vs := [.agg #[.int .i64 ra, .int .i64 ca, .slice pa na cca]]) rfl (all_size rfl) (by omega)).at (U := U1) (M := (bl, .arr [.agg #[.int .i64 ra, .int .i64 ca, .slice pa na cca]], TM) :: (b2, .var (.agg #[.int .i64 ra, .int .i64 ca, .slice pa na cca]), TM) :: M) sb
  refine sl_call rfl rfl rfl rfl rfl rfl (fun _ => light_ct (most := 4) (r := fun _ => ra) (c := fun _ => ca) (n := fun _ => na) (f := fun _ => fa) (hrl.up uc sb) (one_row (P := fun _ v => Raw U1 v ra ca na fa) (ha0.up uc)) (by decide) (by decide)) ?_
  rintro v2 U2 D hU2 ⟨b, rfl, hl, rfl, rfl⟩
  rw [List.nil_append]
  cases b
  · repeat (first | refine run_S ?_ | refine w_box (fun _ => ?_) | refine w_al (fun _ => ?_))
    exact sk_ret [] sym rfl (.cons (.tmp rfl) .nil) uc sb (.inl rfl) rfl
  have la : Lit 4 U1 _ ra ca na fa := hl rfl 0 _ rfl
  clear hl hrl
  repeat (first | refine run_S ?_ | refine w_box (fun _ => ?_) | refine w_al (fun _ => ?_))
  refine sl_call rfl rfl rfl rfl rfl rfl (fun _ => m9Valid_ct (r := ra) (c := ca) (p := pa) (cc := cca) ha3) ?_
  rintro v U' D hU ⟨rfl, rfl, rfl⟩
  repeat (first | refine run_S ?_ | refine w_box (fun _ => ?_) | refine w_al (fun _ => ?_))
  by_cases hVa : Vld ra ca na
  · rw [decide_eq_true hVa]
    obtain ⟨m, n, rfl, rfl, hm6, hn6, hA⟩ := la.vm hVa
    generalize (fun i j => fa (i * n + j)) = A at hA
    clear la
    repeat (first | refine run_S ?_ | refine w_box (fun _ => ?_) | refine w_al (fun _ => ?_))
    refine sl_gdec rfl rfl (fun h => ?_) (fun h => ?_)
    · repeat (first | refine run_S ?_ | refine w_box (fun _ => ?_) | refine w_al (fun _ => ?_))
      exact sk_ret [] sym rfl (.cons (.tmp rfl) .nil) uc sb (.inl rfl) rfl
    obtain rfl : m = n := by omega
    obtain rfl : na = m * m := by
      obtain ⟨_, _, _, _, e⟩ := hVa
      rw [← Int.natCast_mul] at e
      omega
    repeat (first | refine run_S ?_ | refine w_box (fun _ => ?_) | refine w_al (fun _ => ?_))
    refine sl_gdec rfl rfl (fun h => ?_) (fun hk0 => ?_)
    · repeat (first | refine run_S ?_ | refine w_box (fun _ => ?_) | refine w_al (fun _ => ?_))
      exact sk_ret [] sym rfl (.cons (.tmp rfl) .nil) uc sb (.inl rfl) rfl
    repeat (first | refine run_S ?_ | refine w_box (fun _ => ?_) | refine w_al (fun _ => ?_))
    refine sl_gdec rfl rfl (fun h => ?_) (fun hk5 => ?_)
    · repeat (first | refine run_S ?_ | refine w_box (fun _ => ?_) | refine w_al (fun _ => ?_))
      exact sk_ret [] sym rfl (.cons (.tmp rfl) .nil) uc sb (.inl rfl) rfl
    repeat (first | refine run_S ?_ | refine w_box (fun _ => ?_) | refine w_al (fun _ => ?_))
    have sA : ∀ i j, i < m → j < m → Szq (A i j) 1 := fun i j hi hj => hA.sz (Nat.le_refl 1) hi hj
    have hmm : m * m ≤ 16 := Nat.le_trans (Nat.mul_le_mul hm6 hm6) (by decide)
    have hS : 1 + m * (2 * 16777216 + 2) + 16777216 ≤ 10000000000 := by omega
    refine sl_gdec rfl rfl (fun h6 => ?_) (fun h6 => ?_)
    · repeat (first | refine run_S ?_ | refine w_box (fun _ => ?_) | refine w_al (fun _ => ?_))
      refine st_dec rfl (fun h => ?_) (fun h7 => ?_)
      · repeat (first | refine run_S ?_ | refine w_box (fun _ => ?_) | refine w_al (fun _ => ?_))
        exact sk_ret [] sym rfl (.cons (.tmp rfl) .nil) uc sb (.inl rfl) rfl
      repeat (first | refine run_S ?_ | refine w_box (fun _ => ?_) | refine w_al (fun _ => ?_))
      refine sl_call rfl rfl rfl rfl rfl rfl (fun _ => mPower_err (n := m) (N := N) (pa := pa) (cca := cca) (by omega) (by omega)) ?_
      rintro v5 U5 D5 hU5 ⟨rfl, rfl, rfl⟩
      rw [List.nil_append]
      repeat (first | refine run_S ?_ | refine w_box (fun _ => ?_) | refine w_al (fun _ => ?_))
      refine sl_gdec rfl rfl (fun h => absurd h (by omega)) (fun _ => ?_)
      repeat (first | refine run_S ?_ | refine w_box (fun _ => ?_) | refine w_al (fun _ => ?_))
      refine st_dec rfl (fun _ => ?_) (fun h => absurd h (by omega))
      repeat (first | refine run_S ?_ | refine w_box (fun _ => ?_) | refine w_al (fun _ => ?_))
      refine sl_gdec rfl rfl (fun _ => ?_) (fun h => absurd rfl h)
      repeat (first | refine run_S ?_ | refine w_box (fun _ => ?_) | refine w_al (fun _ => ?_))
      refine sl_call rfl rfl rfl rfl rfl rfl (fun _ => none9_ct) ?_
      rintro v9 U9 D hU9 ⟨rfl, rfl, rfl⟩
      rw [List.nil_append]
      repeat (first | refine run_S ?_ | refine w_box (fun _ => ?_) | refine w_al (fun _ => ?_))
      exact sk_ret [] sym rfl (.cons (.tmp rfl) .nil) uc sb (.inl rfl) rfl
    by_cases hN0 : N < 0
    · repeat (first | refine run_S ?_ | refine w_box (fun _ => ?_) | refine w_al (fun _ => ?_))
      repeat (first | refine run_S ?_ | refine w_box (fun _ => ?_) | refine w_al (fun _ => ?_))
      refine sl_call rfl rfl rfl rfl rfl rfl (fun _ => mPower_err (n := m) (N := N) (pa := pa) (cca := cca) (by omega) (by omega)) ?_
      rintro v5 U5 D5 hU5 ⟨rfl, rfl, rfl⟩
      rw [List.nil_append]
      repeat (first | refine run_S ?_ | refine w_box (fun _ => ?_) | refine w_al (fun _ => ?_))
      refine sl_gdec rfl rfl (fun _ => ?_) (fun h => absurd hN0 h)
      repeat (first | refine run_S ?_ | refine w_box (fun _ => ?_) | refine w_al (fun _ => ?_))
      refine sl_gdec rfl rfl (fun _ => ?_) (fun h => absurd rfl h)
      repeat (first | refine run_S ?_ | refine w_box (fun _ => ?_) | refine w_al (fun _ => ?_))
      refine sl_call rfl rfl rfl rfl rfl rfl (fun _ => none9_ct) ?_
      rintro v9 U9 D hU9 ⟨rfl, rfl, rfl⟩
      rw [List.nil_append]
      repeat (first | refine run_S ?_ | refine w_box (fun _ => ?_) | refine w_al (fun _ => ?_))
      exact sk_ret [] sym rfl (.cons (.tmp rfl) .nil) uc sb (.inl rfl) rfl
    obtain ⟨N, rfl⟩ := Int.eq_ofNat_of_zero_le (show 0 ≤ N by omega)
    obtain ⟨K, rfl⟩ := Int.eq_ofNat_of_zero_le (show 0 ≤ K by omega)
    have hN6 : N ≤ 6 := by omega
    have hK5 : K ≤ 5 := by omega
    have sP : ∀ e, e ≤ 11 → ∀ i j, i < m → j < m → Szq (mpow m A e i j) 16777216 := fun e he i j hi hj => (psz_ok sA e i j hi hj).mono (psz_le hm6 he)
    repeat (first | refine run_S ?_ | refine w_box (fun _ => ?_) | refine w_al (fun _ => ?_))
    refine sl_call rfl rfl rfl rfl rfl rfl (fun _ => mPower_ct (S := 16777216) (N := N) (kept_m kept_w _ _ _ _ uc hA) (by decide) (by decide) hS (fun e he => sP e (by omega)) (by omega) (by omega)) ?_
    rintro v5 U5 D5 hU5 ⟨_, rfl, ⟨_, rfl, p5, c5, s5, rfl, h5⟩, rfl⟩
    rw [List.nil_append]
    have hP : Vm Vq m m U5 (.agg #[.int .i64 (m : Int), .int .i64 (m : Int), .slice p5 (m * m) c5]) (mpow m A N) := ⟨_, rfl, p5, c5, s5, rfl, h5⟩
    repeat (first | refine run_S ?_ | refine w_box (fun _ => ?_) | refine w_al (fun _ => ?_))
    rename_i b7
    refine sl_gdec rfl rfl (fun h => absurd h (by omega)) (fun _ => ?_)
    repeat (first | refine run_S ?_ | refine w_box (fun _ => ?_) | refine w_al (fun _ => ?_))
    refine st_dec rfl (fun h => absurd h (by omega)) (fun _ => ?_)
    repeat (first | refine run_S ?_ | refine w_box (fun _ => ?_) | refine w_al (fun _ => ?_))
    refine sl_call rfl rfl rfl rfl rfl rfl (fun _ => m9Identity_ct (n := m) (by omega)) ?_
    rintro vh7 Uh7 D hU ⟨h7, rfl⟩
    rw [List.nil_append]
    repeat (first | refine run_S ?_ | refine w_box (fun _ => ?_) | refine w_al (fun _ => ?_))
    obtain ⟨_, rfl, p7, c7, s7, rfl, h8⟩ := h7
    repeat (first | refine run_S ?_ | refine w_box (fun _ => ?_) | refine w_al (fun _ => ?_))
    rename_i b9
    refine st_anti (M := (b9, .var (.agg #[.int .i64 (m : Int), .int .i64 (m : Int), .slice p7 (m * m) c7]), TM) :: (b7, .var (.agg #[.int .i64 (m : Int), .int .i64 (m : Int), .slice p5 (m * m) c5]), TM) :: (bl, .arr [.agg #[.int .i64 (m : Int), .int .i64 (m : Int), .slice pa (m * m) cca]], TM) :: (b2, .var (.agg #[.int .i64 (m : Int), .int .i64 (m : Int), .slice pa (m * m) cca]), TM) :: M) (M' := (b9, .var (.agg #[.int .i64 (m : Int), .int .i64 (m : Int), .slice p7 (m * m) c7]), TM) :: (b7, .var (.agg #[.int .i64 (m : Int), .int .i64 (m : Int), .slice p5 (m * m) c5]), TM) :: (b2, .var (.agg #[.int .i64 (m : Int), .int .i64 (m : Int), .slice pa (m * m) cca]), TM) :: M) (ULe.refl _) sbk ?_
    refine st_loop (fun z E U' M' => ∃ (i : Nat) (p : Option Addr) (c : Nat), i ≤ N ∧ Vm Vq m m U' (.agg #[.int .i64 (m : Int), .int .i64 (m : Int), .slice p (m * m) c]) (mpow m A i) ∧ E = [(10, .int .i64 (i : Int)), (1, .int .i64 (N : Int)), (9, .pointer (some ⟨b9, 0, none⟩)), (3, .pointer (some ⟨b2, 0, none⟩)), (7, .pointer (some ⟨b7, 0, none⟩)), (8, .int .i64 0), (2, .int .i64 (K : Int))] ∧ ULe Uh7 U' ∧ M' = (b9, .var (.agg #[.int .i64 (m : Int), .int .i64 (m : Int), .slice p (m * m) c]), TM) :: (b7, .var (.agg #[.int .i64 (m : Int), .int .i64 (m : Int), .slice p5 (m * m) c5]), TM) :: (b2, .var (.agg #[.int .i64 (m : Int), .int .i64 (m : Int), .slice pa (m * m) cca]), TM) :: M ∧ z = N - i) (n0 := N)
      (E0 := [(10, .int .i64 ((0 : Nat) : Int)), (1, .int .i64 (N : Int)), (9, .pointer (some ⟨b9, 0, none⟩)), (3, .pointer (some ⟨b2, 0, none⟩)), (7, .pointer (some ⟨b7, 0, none⟩)), (8, .int .i64 0), (2, .int .i64 (K : Int))]) ⟨rfl, rfl, rfl, rfl, rfl, rfl, rfl, trivial⟩ ⟨0, p7, c7, by omega, ⟨_, rfl, p7, c7, s7, rfl, h8⟩, rfl, uc, rfl, rfl⟩ ?_
    rintro z E U9 M' ⟨i, p9, c9, hi, h9, rfl, hU9, rfl, rfl⟩
    try refine run_s ?_
    refine st_dec rfl (fun h => ?_) (fun h => ?_)
    · have hiN : i < N := by omega
      repeat (first | refine run_S ?_ | refine w_box (fun _ => ?_) | refine w_al (fun _ => ?_))
      refine sl_call rfl rfl rfl rfl rfl rfl (fun _ => m9Mul_ct (b := 16777216) (kept_m kept_w _ _ _ _ uc (h9.w (sP i (by omega)))) ((kept_m kept_w _ _ _ _ uc hA).mono (by decide)) (by decide) (by omega) (by omega) (by omega) (by omega) (by omega)) ?_
      rintro vh10 Uh10 D hU ⟨h10, rfl⟩
      rw [List.nil_append]
      repeat (first | refine run_S ?_ | refine w_box (fun _ => ?_) | refine w_al (fun _ => ?_))
      obtain ⟨_, rfl, p10, c10, s10, rfl, h11⟩ := h10
      repeat (first | refine run_S ?_ | refine w_box (fun _ => ?_) | refine w_al (fun _ => ?_))
      exact sk_again (E' := [(10, .int .i64 ((i : Int) + 1)), (1, .int .i64 (N : Int)), (9, .pointer (some ⟨b9, 0, none⟩)), (3, .pointer (some ⟨b2, 0, none⟩)), (7, .pointer (some ⟨b7, 0, none⟩)), (8, .int .i64 0), (2, .int .i64 (K : Int))]) (m := N - (i + 1)) ⟨rfl, rfl, rfl, rfl, rfl, rfl, rfl, trivial⟩ (by omega)
        ⟨i + 1, p10, c10, by omega, ⟨_, rfl, p10, c10, s10, rfl, h11⟩, rfl, uc, rfl, rfl⟩
    · have e : i = N := by omega
      subst e
      repeat (first | refine run_S ?_ | refine w_box (fun _ => ?_) | refine w_al (fun _ => ?_))
      refine sl_call rfl rfl rfl rfl rfl rfl (fun _ => mPower_ct (S := 16777216) (N := K) (kept_m kept_w _ _ _ _ uc hA) (by decide) (by decide) hS (fun e he => sP e (by omega)) (by omega) (by omega)) ?_
      rintro v12 U12 D12 hU12 ⟨_, rfl, ⟨_, rfl, p12, c12, s12, rfl, h12⟩, rfl⟩
      rw [List.nil_append]
      have hQ : Vm Vq m m U12 (.agg #[.int .i64 (m : Int), .int .i64 (m : Int), .slice p12 (m * m) c12]) (mpow m A K) := ⟨_, rfl, p12, c12, s12, rfl, h12⟩
      repeat (first | refine run_S ?_ | refine w_box (fun _ => ?_) | refine w_al (fun _ => ?_))
      refine sl_call rfl rfl rfl rfl rfl rfl (fun _ => mPower_ct (S := 16777216) (N := i + K) (kept_m kept_w _ _ _ _ uc hA) (by decide) (by decide) hS (fun e he => sP e (by omega)) (by omega) (by omega)) ?_
      rintro v13 U13 D13 hU13 ⟨_, rfl, ⟨_, rfl, p13, c13, s13, rfl, h13⟩, rfl⟩
      rw [List.nil_append]
      have hR : Vm Vq m m U13 (.agg #[.int .i64 (m : Int), .int .i64 (m : Int), .slice p13 (m * m) c13]) (mpow m A (i + K)) := ⟨_, rfl, p13, c13, s13, rfl, h13⟩
      repeat (first | refine run_S ?_ | refine w_box (fun _ => ?_) | refine w_al (fun _ => ?_))
      refine st_draw [0, 1, 2, 3, 4, 5, 6, 7, 8, 9, 10, 11, 12, 13, 14, 15, 16, 17, 18, 19, 20, 21, 22] sym (by kernel_rfl) ?_
      repeat (first | refine run_S ?_ | refine w_box (fun _ => ?_) | refine w_al (fun _ => ?_))
      refine sl_gdec rfl rfl (fun _ => ?_) (fun h => absurd rfl h)
      repeat (first | refine run_S ?_ | refine w_box (fun _ => ?_) | refine w_al (fun _ => ?_))
      refine sl_gdec rfl rfl (fun _ => ?_) (fun h => absurd rfl h)
      repeat (first | refine run_S ?_ | refine w_box (fun _ => ?_) | refine w_al (fun _ => ?_))
      refine sl_gdec rfl rfl (fun _ => ?_) (fun h => absurd rfl h)
      repeat (first | refine run_S ?_ | refine w_box (fun _ => ?_) | refine w_al (fun _ => ?_))
      refine sl_call rfl rfl rfl rfl rfl rfl (fun _ => bSameMatrix_ct (kept_m kept_q _ _ _ _ uc hP) (kept_m kept_q _ _ _ _ uc h9) (by omega) (by omega)) ?_
      rintro v14 U14 D hU14 ⟨b14, rfl, hb14, rfl, rfl⟩
      rw [List.nil_append]
      obtain rfl := hb14.2 ⟨rfl, rfl, fun _ _ _ _ => rfl⟩
      repeat (first | refine run_S ?_ | refine w_box (fun _ => ?_) | refine w_al (fun _ => ?_))
      refine sl_call rfl rfl rfl rfl rfl rfl (fun _ => m9Mul_ct (b := 16777216) (kept_m kept_w _ _ _ _ uc (hP.w (sP i (by omega)))) (kept_m kept_w _ _ _ _ uc (hQ.w (sP K (by omega)))) (by decide) (by omega) (by omega) (by omega) (by omega) (by omega)) ?_
      rintro vh15 Uh15 D hU ⟨h15, rfl⟩
      rw [List.nil_append]
      repeat (first | refine run_S ?_ | refine w_box (fun _ => ?_) | refine w_al (fun _ => ?_))
      obtain ⟨_, rfl, p15, c15, s15, rfl, h16⟩ := h15
      repeat (first | refine run_S ?_ | refine w_box (fun _ => ?_) | refine w_al (fun _ => ?_))
      refine sl_call rfl rfl rfl rfl rfl rfl (fun _ => bSameMatrix_ct (kept_m kept_q _ _ _ _ uc hR) (kept_m kept_q _ _ _ _ (ULe.refl _) ⟨_, rfl, p15, c15, s15, rfl, h16⟩) (by omega) (by omega)) ?_
      rintro v17 U17 D hU17 ⟨b17, rfl, hb17, rfl, rfl⟩
      rw [List.nil_append]
      obtain rfl := hb17.2 ⟨rfl, rfl, fun a j ha hj => (mpow_add i K a j ha hj).symm⟩
      repeat (first | refine run_S ?_ | refine w_box (fun _ => ?_) | refine w_al (fun _ => ?_))
      exact sk_ret [] sym rfl (.cons (.tmp rfl) .nil) uc sb (.inl rfl) rfl
  · rw [decide_eq_false hVa]
    repeat (first | refine run_S ?_ | refine w_box (fun _ => ?_) | refine w_al (fun _ => ?_))
    exact sk_ret [] sym rfl (.cons (.tmp rfl) .nil) uc sb (.inl rfl) rfl

end Go.Proofs.YtcfgogamamdipaaGreat
