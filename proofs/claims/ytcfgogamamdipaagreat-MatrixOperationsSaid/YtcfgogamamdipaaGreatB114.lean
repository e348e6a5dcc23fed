/- The law of layer 9 on inverses. -/
import Derived.Test.YtcfgogamamdipaaGreatB113
import Derived.Test.YtcfgogamamdipaaGreatB111
namespace Go.Proofs.YtcfgogamamdipaaGreat
open Go.Hp
variable {G : World} {U U' : UH} {M M' : MH}

theorem mm_assoc {n : Nat} (X A Y : Nat → Nat → Rat) (i j : Nat) : La.mm n (La.mm n X A) Y i j = La.mm n X (La.mm n A Y) i j := by
  show (La.sm n fun k => (La.sm n fun l => X i l * A l k) * Y k j) = La.sm n fun l => X i l * La.sm n fun k => A l k * Y k j
  rw [La.sm_congr (g := fun k => La.sm n fun l => X i l * A l k * Y k j) fun k _ => by rw [La.sm_mul'], La.sm_comm]
  exact La.sm_congr fun l _ => by
    rw [← La.sm_mul]
    exact La.sm_congr fun k _ => La.mul_assoc _ _ _
theorem mm_congr {n : Nat} {X X' A A' : Nat → Nat → Rat} {i j : Nat} (hX : ∀ k, k < n → X i k = X' i k) (hA : ∀ k, k < n → A k j = A' k j) : La.mm n X A i j = La.mm n X' A' i j :=
  La.sm_congr fun k hk => by rw [hX k hk, hA k hk]
theorem mm_idm {n : Nat} (X : Nat → Nat → Rat) {i j : Nat} (hj : j < n) : La.mm n X La.idm i j = X i j := by
  show (La.sm n fun k => X i k * La.idm k j) = _
  rw [La.sm_one j hj fun k _ hk => by unfold La.idm; rw [if_neg hk, La.mul_zero]]
  unfold La.idm
  rw [if_pos rfl, La.mul_one]

theorem span_inv {n : Nat} {A R : Nat → Nat → Rat} {p : Nat → Nat} (h : EchOf n n n A R p) : ∃ X : Nat → Nat → Rat, ∀ i j, i < n → j < n → La.mm n X A i j = La.idm i j := by
  have h1 : ∀ i, ∃ c : Nat → Rat, i < n → ∀ j, j < n → La.idm i j = La.sm n fun k => c k * A k j := fun i => by
    by_cases hi : i < n
    · obtain ⟨c, hc⟩ := h.same.lt i hi
      exact ⟨c, fun _ j hj => by rw [← h.ech.full.2 i j hi hj, hc j hj]⟩
    · exact ⟨fun _ => 0, fun h2 => absurd h2 hi⟩
  exact ⟨fun i => Classical.choose (h1 i), fun i j hi hj => (Classical.choose_spec (h1 i) hi j hj).symm⟩

theorem right_inv {n k : Nat} {A R : Nat → Nat → Rat} {p : Nat → Nat} (hs : ∀ i j, i < n → j < n → Szq (A i j) k) (h : EchOf n n n A R p) : ∃ Y : Nat → Nat → Rat, ∀ i j, i < n → j < n → La.mm n A Y i j = La.idm i j := by
  obtain ⟨r, S, q, h1, h2, h3, -⟩ := ech_small (A := La.tr A) (m := n) (n := n) (k := k) fun i j hi hj => hs j i hj hi
  have h4 : n ≤ r := La.rank_tr (A := La.tr A) h1 h2 h.ech h.same
  obtain rfl : r = n := Nat.le_antisymm h3 h4
  obtain ⟨Z, hZ⟩ := span_inv (A := La.tr A) ⟨h1, h2, Nat.le_refl r⟩
  refine ⟨La.tr Z, fun i j hi hj => ?_⟩
  have h5 := hZ j i hj hi
  rw [show La.idm i j = La.idm (K := Rat) j i by unfold La.idm; by_cases e : i = j <;> simp [e, Ne.symm], ← h5]
  exact La.sm_congr fun k _ => La.mul_comm _ _

theorem left_right {n : Nat} {A X Y : Nat → Nat → Rat} (hX : ∀ i j, i < n → j < n → La.mm n X A i j = La.idm i j) (hY : ∀ i j, i < n → j < n → La.mm n A Y i j = La.idm i j) : ∀ i j, i < n → j < n → X i j = Y i j := fun i j hi hj => by
  rw [← mm_idm X hj, ← mm_congr (X := X) (A := La.mm n A Y) (fun _ _ => rfl) (fun k hk => hY k j hk hj), ← mm_assoc, mm_congr (fun k hk => hX i k hi hk) (fun _ _ => rfl), La.idm_mm Y hi]

theorem rank_sol {n r : Nat} {A R : Nat → Nat → Rat} {p : Nat → Nat} (h : EchOf n n r A R p) : r = n ↔ ∀ i, i < n → ∃ y, La.Sol n n A (La.idm i) y := by
  refine ⟨fun e i hi => ?_, fun hy => ?_⟩
  · subst e
    obtain ⟨X, hX⟩ := span_inv h
    exact ⟨X i, fun j hj => (hX i j hi hj).symm⟩
  · refine Nat.le_antisymm h.le (La.indep_le (A := La.idm) (B := R) (n := n) (fun i hi => ?_) fun x hx i hi => ?_)
    · obtain ⟨y, hy⟩ := hy i hi
      exact h.same.sp.2 ⟨y, fun j hj => hy j hj⟩
    · rw [← hx i hi, La.sm_one i hi fun k _ hk => by unfold La.idm; rw [if_neg hk, La.mul_zero]]
      unfold La.idm
      rw [if_pos rfl, La.mul_one]

theorem dbl_small {W k n : Nat} (hn : n ≤ 6) (hW : W ≤ 13000) (hk : k ≤ 100) : La.dbl W k n ≤ 1000000 := by
  have h1 := La.dbl_bd W k n
  have h2 : 2 ^ n ≤ 2 ^ 6 := Nat.pow_le_pow_right (by decide) hn
  have h3 : 2 ^ n * (k + W + 1) ≤ 2 ^ 6 * (100 + 13000 + 1) := Nat.mul_le_mul h2 (by omega)
  have : (2 : Nat) ^ 6 * (100 + 13000 + 1) = 838464 := by decide
  omega

theorem mInverse_ct {n b : Nat} {vm : Value} {A : Nat → Nat → Rat} (hm : Vm (Wq b) n n U vm A) (hb1 : 1 ≤ b) (hg1 : 1 + n * La.gro b n ≤ 1000000000) (hgW : La.gro b n ≤ 1000000000) (hn1 : n ≤ 1000) :
    Ct Tryz.prog 28 [vm] G U M fun v U' D => ∃ (r : Nat) (R : Nat → Nat → Rat) (p : Nat → Nat) (vX : Value) (e : Int), v = .tuple #[vX, .int .i64 e] ∧ EchOf n n r A R p ∧ (r < n → e = 11 ∧ vX = .agg #[.int .i64 0, .int .i64 0, .slice none 0 0]) ∧
      (r = n → e = 0 ∧ ∃ X : Nat → Nat → Rat, Vm Vq n n U' vX X ∧ (∀ i j, i < n → j < n → La.mm n X A i j = La.idm i j) ∧ ∀ i j, i < n → j < n → Szq (X i j) (La.gro b n)) ∧ D = [] :=
  (mInverse_co hm hb1 hg1 hgW hn1).settle.mono fun _ _ _ _ ⟨h1, _, _, ⟨r, R, p, vX, e, h2, h3, h4, h5, _⟩, _, h7, h8⟩ =>
    ⟨r, R, p, vX, e, h2, h3, fun hr => ⟨(h4 hr).1, (h4 hr).2.1⟩, fun hr => by
      obtain ⟨h9, X, ⟨a, h10, h11⟩, h12⟩ := h5 hr
      exact ⟨h9, X, ⟨a, h10, h11.sett kept_q h7 h8⟩, h12⟩, h1⟩

theorem none9_ct : Ct Tryz.prog 31 [.agg #[.int .i64 0, .int .i64 0, .slice none 0 0]] G U M fun v U' D => v = .bool true ∧ U = U' ∧ D = [] := by
  refine ct_of_st Tryz.func31 rfl rfl rfl rfl ?_
  repeat (first | refine run_S ?_ | refine w_box (fun _ => ?_) | refine w_al (fun _ => ?_))
  refine sl_gdec rfl rfl (fun _ => ?_) (fun h => absurd rfl h)
  repeat (first | refine run_S ?_ | refine w_box (fun _ => ?_) | refine w_al (fun _ => ?_))
  refine sl_gdec rfl rfl (fun _ => ?_) (fun h => absurd rfl h)
  repeat (first | refine run_S ?_ | refine w_box (fun _ => ?_) | refine w_al (fun _ => ?_))
  exact sk_ret [] sym rfl (.cons (.tmp rfl) .nil) uc sb (.inl rfl) ⟨by rw [dec_true (p := ((0 : Nat) : Int) = 0) rfl]; rfl, rfl, rfl⟩

set_option maxRecDepth 100000 in
theorem MatrixInverses_ct {va : Value} {ra ca : Int} {na : Nat} {fa : Nat → Rat} (ha : Raw U va ra ca na fa) :
    Ct Tryz.prog 5 [va] G U M fun v _ _ => v = .bool true := by
  have ha0 := ha
  obtain ⟨ha1, ha2, ha3, _, rfl, pa, cca, asa, rfl, -⟩ := ha
  refine ct_of_st Tryz.func5 rfl rfl rfl rfl ?_
  repeat (first | refine run_S ?_ | refine w_box (fun _ => ?_) | refine w_al (fun _ => ?_))
  rename_i b2
  refine sl_call rfl rfl rfl rfl rfl rfl (fun _ => awake9_ct) ?_
  rintro v1 U1 D hU1 ⟨rfl, -, rfl⟩
  rw [List.nil_append]
  repeat (first | refine run_S ?_ | refine w_box (fun _ => ?_) | refine w_al (fun _ => ?_))
  refine sl_bslice (vs := [.agg #[.int .i64 ra, .int .i64 ca, .slice pa na cca]]) sym rfl rfl rfl rfl rfl rfl (all_size rfl) rfl rfl rfl rfl rfl rfl (fun bl => ?_)
  have hrl := (RowO.mk (e := TM) (s := 3) (b := bl) (n := 1) (vs := [.agg #[.int .i64 ra, .int .i64 ca, .slice pa na cca]]) rfl (all_size rfl) (by omega)).at (U := U1) (M := (bl, .arr [.agg #[.int .i64 ra, .int .i64 ca, .slice pa na cca]], TM) :: (b2, .var (.agg #[.int .i64 ra, .int .i64 ca, .slice pa na cca]), TM) :: M) sb
  refine sl_call rfl rfl rfl rfl rfl rfl (fun _ => light_ct (most := 5) (r := fun _ => ra) (c := fun _ => ca) (n := fun _ => na) (f := fun _ => fa) (hrl.up uc sb) (one_row (P := fun _ v => Raw U1 v ra ca na fa) (ha0.up uc)) (by decide) (by decide)) ?_
  rintro v2 U2 D hU2 ⟨b, rfl, hl, rfl, rfl⟩
  rw [List.nil_append]
  cases b
  · repeat (first | refine run_S ?_ | refine w_box (fun _ => ?_) | refine w_al (fun _ => ?_))
    exact sk_ret [] sym rfl (.cons (.tmp rfl) .nil) uc sb (.inl rfl) rfl
  have la : Lit 5 U1 _ ra ca na fa := hl rfl 0 _ rfl
  clear hl hrl
  repeat (first | refine run_S ?_ | refine w_box (fun _ => ?_) | refine w_al (fun _ => ?_))
  refine sl_call rfl rfl rfl rfl rfl rfl (fun _ => m9Valid_ct (r := ra) (c := ca) (p := pa) (cc := cca) ha3) ?_
  rintro v U' D hU ⟨rfl, rfl, rfl⟩
  repeat (first | refine run_S ?_ | refine w_box (fun _ => ?_) | refine w_al (fun _ => ?_))
  by_cases hVa : Vld ra ca na
  · rw [decide_eq_true hVa]
    obtain ⟨m, n, rfl, rfl, hm6, hn6, hA⟩ := la.vm hVa
    generalize (fun i j => fa (i * n + j)) = A at hA
    clear la
    repeat (first | refine run_S ?_ | refine w_box (fun _ => ?_) | refine w_al (fun _ => ?_))
    refine st_ne rfl (fun h => ?_) (fun h => ?_)
    · repeat (first | refine run_S ?_ | refine w_box (fun _ => ?_) | refine w_al (fun _ => ?_))
      exact sk_ret [] sym rfl (.cons (.tmp rfl) .nil) uc sb (.inl rfl) rfl
    obtain rfl : m = n := by omega
    have g1 := gro_small (k := 1) (n := m) (by omega) (by decide)
    obtain ⟨g2, g3⟩ := gro_one (n := m) (by omega)
    have g4 := dbl_small (W := La.gro 1 m) (k := 1) (n := m) (by omega) g3 (by decide)
    have sA : ∀ i j, i < m → j < m → Szq (A i j) 1 := fun i j hi hj => hA.sz (Nat.le_refl 1) hi hj
    have hmm : m * m ≤ 25 := Nat.le_trans (Nat.mul_le_mul hm6 hm6) (by decide)
    repeat (first | refine run_S ?_ | refine w_box (fun _ => ?_) | refine w_al (fun _ => ?_))
    refine sl_call rfl rfl rfl rfl rfl rfl (fun _ => mInverse_ct (kept_m kept_w _ _ _ _ uc hA) (Nat.le_refl 1) (by omega) (by omega) (by omega)) ?_
    rintro v3 U3 D hU3 ⟨r, R, p, vX, e, rfl, h3, h4, h5, rfl⟩
    rw [List.nil_append]
    have hex : ∃ (r1 c1 : Int) (p1 : Option Addr) (n1 k1 : Nat), vX = .agg #[.int .i64 r1, .int .i64 c1, .slice p1 n1 k1] := by
      rcases Nat.lt_or_eq_of_le h3.le with h | h
      · exact ⟨_, _, _, _, _, (h4 h).2⟩
      · obtain ⟨-, X, ⟨_, h6, _, _, _, rfl, -⟩, -⟩ := h5 h
        exact ⟨_, _, _, _, _, h6⟩
    obtain ⟨x1, x2, x3, x4, x5, hX⟩ := hex
    subst hX
    repeat (first | refine run_S ?_ | refine w_box (fun _ => ?_) | refine w_al (fun _ => ?_))
    refine sl_call rfl rfl rfl rfl rfl rfl (fun _ => mDet_ct (kept_m kept_w _ _ _ _ uc hA) (Nat.le_refl 1) (by omega) (by omega) (by omega)) ?_
    rintro v5 U5 D hU5 ⟨xd, rfl, h6, rfl, ⟨r2, R2, p2, d2, hred⟩, sd⟩
    rw [List.nil_append]
    obtain ⟨q1, -, -⟩ := h3.unique hred.echof
    obtain rfl := q1
    have hdr : La.det m A ≠ 0 ↔ r = m := by
      refine ⟨fun h => ?_, fun h => ?_⟩
      · rcases Nat.lt_or_eq_of_le h3.le with h7 | h7
        · exact absurd (hred.det.2 h7) h
        · exact h7
      · rw [hred.det.1 h]
        exact (hred.rop rfl).1
    repeat (first | refine run_S ?_ | refine w_box (fun _ => ?_) | refine w_al (fun _ => ?_))
    refine sl_call rfl rfl rfl rfl rfl rfl (fun _ => m9Inverse_ct (kept_m kept_w _ _ _ _ uc hA) (Nat.le_refl 1) (by omega) (by omega) (by omega)) ?_
    rintro v7 U7 D hU7 ⟨vY, ok, rfl, h7, h8, rfl⟩
    rw [List.nil_append]
    have hok : ok = true ↔ r = m := by
      cases ok
      · refine ⟨(fun h => by cases h), fun h => ?_⟩
        obtain ⟨-, i, hi, hn⟩ := h8 rfl
        obtain ⟨y, hy⟩ := (rank_sol h3).1 h i hi
        exact absurd hy (hn y)
      · refine ⟨fun _ => (rank_sol h3).2 fun i hi => ?_, fun _ => rfl⟩
        obtain ⟨Y, -, hY⟩ := h7 rfl
        exact ⟨Y i, fun j hj => (hY i j hi hj).symm⟩
    have hey : ∃ (r1 c1 : Int) (p1 : Option Addr) (n1 k1 : Nat), vY = .agg #[.int .i64 r1, .int .i64 c1, .slice p1 n1 k1] := by
      cases ok
      · exact ⟨_, _, _, _, _, (h8 rfl).1⟩
      · obtain ⟨X, ⟨_, h9, _, _, _, rfl, -⟩, -⟩ := h7 rfl
        exact ⟨_, _, _, _, _, h9⟩
    obtain ⟨y1, y2, y3, y4, y5, hY⟩ := hey
    subst hY
    repeat (first | refine run_S ?_ | refine w_box (fun _ => ?_) | refine w_al (fun _ => ?_))
    refine sl_gdec rfl rfl (fun h => absurd rfl h) (fun _ => ?_)
    repeat (first | refine run_S ?_ | refine w_box (fun _ => ?_) | refine w_al (fun _ => ?_))
    refine sl_call rfl rfl rfl rfl rfl rfl (fun _ => rqSign_ct (h6.rep.up uc sb) (h6.le sd (by omega))) ?_
    rintro v U' D hU ⟨rfl, rfl, rfl⟩
    repeat (first | refine run_S ?_ | refine w_box (fun _ => ?_) | refine w_al (fun _ => ?_))
    have hsd : dec ((La.det m A).num.sign ≠ 0) = ok := by
      have hz : (La.det m A).num.sign ≠ 0 ↔ La.det m A ≠ 0 := not_congr (Int.sign_eq_zero_iff_zero.trans rat_num_zero)
      cases ok
      · exact dec_false fun h => by have := hok.2 (hdr.1 (hz.1 h)); cases this
      · exact dec_true (hz.2 (hdr.2 (hok.1 rfl)))
    refine st_cond rfl (fun h => by rw [hsd] at h; cases ok <;> cases h) (fun _ => ?_)
    repeat (first | refine run_S ?_ | refine w_box (fun _ => ?_) | refine w_al (fun _ => ?_))
    cases ok
    · have hrm : r < m := by
        rcases Nat.lt_or_eq_of_le h3.le with h9 | h9
        · exact h9
        · cases hok.2 h9
      obtain ⟨rfl, hX⟩ := h4 hrm
      injection hX with hX
      injection hX with hX
      injection hX with hX1 hX
      injection hX with hX2 hX
      injection hX with hX3 hX
      injection hX1 with _ hX1
      injection hX2 with _ hX2
      injection hX3 with hX3 hX4 hX5
      subst hX1 hX2 hX3 hX4 hX5
      repeat (first | refine run_S ?_ | refine w_box (fun _ => ?_) | refine w_al (fun _ => ?_))
      refine sl_gdec rfl rfl (fun _ => ?_) (fun h => absurd rfl h)
      repeat (first | refine run_S ?_ | refine w_box (fun _ => ?_) | refine w_al (fun _ => ?_))
      refine sl_call rfl rfl rfl rfl rfl rfl (fun _ => none9_ct) ?_
      rintro v9 U9 D hU9 ⟨rfl, rfl, rfl⟩
      rw [List.nil_append]
      repeat (first | refine run_S ?_ | refine w_box (fun _ => ?_) | refine w_al (fun _ => ?_))
      exact sk_ret [] sym rfl (.cons (.tmp rfl) .nil) uc sb (.inl rfl) rfl
    · obtain ⟨rfl, X, hX, hXA, sX⟩ := h5 (hok.1 rfl)
      obtain ⟨Y, hY, hYA⟩ := h7 rfl
      obtain ⟨Z, hZ⟩ := right_inv (n := m) (A := A) sA (by have := hok.1 rfl; subst this; exact h3)
      have hXZ := left_right hXA hZ
      have hYZ := left_right hYA hZ
      have hXA1 : ∀ i j, i < m → j < m → La.mm m X A i j = La.idm i j := hXA
      have hXA2 : ∀ i j, i < m → j < m → La.mm m A X i j = La.idm i j := fun i j hi hj => by
        rw [mm_congr (X' := A) (A' := Z) (fun _ _ => rfl) fun k hk => hXZ k j hk hj]
        exact hZ i j hi hj
      repeat (first | refine run_S ?_ | refine w_box (fun _ => ?_) | refine w_al (fun _ => ?_))
      refine st_draw [0, 1, 2, 3, 4, 5, 6, 7, 8, 9, 11, 12, 10, 13, 14, 15, 16, 17, 18, 20, 21, 19, 22, 23, 24, 25] sym (by kernel_rfl) ?_
      repeat (first | refine run_S ?_ | refine w_box (fun _ => ?_) | refine w_al (fun _ => ?_))
      refine sl_gdec rfl rfl (fun _ => ?_) (fun h => absurd rfl h)
      repeat (first | refine run_S ?_ | refine w_box (fun _ => ?_) | refine w_al (fun _ => ?_))
      refine sl_call rfl rfl rfl rfl rfl rfl (fun _ => bSameMatrix_ct (kept_m kept_q _ _ _ _ uc hX) (kept_m kept_q _ _ _ _ uc hY) (by omega) (by omega)) ?_
      rintro v13 U13 D hU13 ⟨b13, rfl, hb13, rfl, rfl⟩
      rw [List.nil_append]
      obtain rfl := hb13.2 ⟨rfl, rfl, fun i j hi hj => (hXZ i j hi hj).trans (hYZ i j hi hj).symm⟩
      repeat (first | refine run_S ?_ | refine w_box (fun _ => ?_) | refine w_al (fun _ => ?_))
      refine sl_call rfl rfl rfl rfl rfl rfl (fun _ => m9Mul_ct (b := La.gro 1 m) (kept_m kept_w _ _ _ _ uc (hX.w sX)) ((kept_m kept_w _ _ _ _ uc hA).mono g2) g2 (by have := Nat.mul_le_mul hm6 (show 2 * La.gro 1 m + 1 ≤ 26001 by omega); omega) (by omega) (by omega) (by omega) (by omega)) ?_
      rintro vh14 Uh14 D hU ⟨h14, rfl⟩
      rw [List.nil_append]
      repeat (first | refine run_S ?_ | refine w_box (fun _ => ?_) | refine w_al (fun _ => ?_))
      obtain ⟨_, rfl, p14, c14, s14, rfl, -⟩ := id h14
      repeat (first | refine run_S ?_ | refine w_box (fun _ => ?_) | refine w_al (fun _ => ?_))
      refine sl_call rfl rfl rfl rfl rfl rfl (fun _ => m9Identity_ct (n := m) (by omega)) ?_
      rintro vh15 Uh15 D hU ⟨h15, rfl⟩
      rw [List.nil_append]
      repeat (first | refine run_S ?_ | refine w_box (fun _ => ?_) | refine w_al (fun _ => ?_))
      refine sl_call rfl rfl rfl rfl rfl rfl (fun _ => bSameMatrix_ct (kept_m kept_q _ _ _ _ uc h14) (kept_m kept_q _ _ _ _ uc h15) (by omega) (by omega)) ?_
      rintro v16 U16 D hU16 ⟨b16, rfl, hb16, rfl, rfl⟩
      rw [List.nil_append]
      obtain rfl := hb16.2 ⟨rfl, rfl, hXA1⟩
      repeat (first | refine run_S ?_ | refine w_box (fun _ => ?_) | refine w_al (fun _ => ?_))
      refine sl_call rfl rfl rfl rfl rfl rfl (fun _ => m9Mul_ct (b := La.gro 1 m) ((kept_m kept_w _ _ _ _ uc hA).mono g2) (kept_m kept_w _ _ _ _ uc (hX.w sX)) g2 (by have := Nat.mul_le_mul hm6 (show 2 * La.gro 1 m + 1 ≤ 26001 by omega); omega) (by omega) (by omega) (by omega) (by omega)) ?_
      rintro vh17 Uh17 D hU ⟨h17, rfl⟩
      rw [List.nil_append]
      repeat (first | refine run_S ?_ | refine w_box (fun _ => ?_) | refine w_al (fun _ => ?_))
      obtain ⟨_, rfl, p17, c17, s17, rfl, -⟩ := id h17
      repeat (first | refine run_S ?_ | refine w_box (fun _ => ?_) | refine w_al (fun _ => ?_))
      refine sl_call rfl rfl rfl rfl rfl rfl (fun _ => m9Identity_ct (n := m) (by omega)) ?_
      rintro vh18 Uh18 D hU ⟨h18, rfl⟩
      rw [List.nil_append]
      repeat (first | refine run_S ?_ | refine w_box (fun _ => ?_) | refine w_al (fun _ => ?_))
      repeat (first | refine run_S ?_ | refine w_box (fun _ => ?_) | refine w_al (fun _ => ?_))
      refine sl_call rfl rfl rfl rfl rfl rfl (fun _ => bSameMatrix_ct (kept_m kept_q _ _ _ _ uc h17) (kept_m kept_q _ _ _ _ uc h18) (by omega) (by omega)) ?_
      rintro v19 U19 D hU19 ⟨b19, rfl, hb19, rfl, rfl⟩
      rw [List.nil_append]
      obtain rfl := hb19.2 ⟨rfl, rfl, hXA2⟩
      repeat (first | refine run_S ?_ | refine w_box (fun _ => ?_) | refine w_al (fun _ => ?_))
      exact sk_ret [] sym rfl (.cons (.tmp rfl) .nil) uc sb (.inl rfl) rfl
  · rw [decide_eq_false hVa]
    repeat (first | refine run_S ?_ | refine w_box (fun _ => ?_) | refine w_al (fun _ => ?_))
    exact sk_ret [] sym rfl (.cons (.tmp rfl) .nil) uc sb (.inl rfl) rfl

end Go.Proofs.YtcfgogamamdipaaGreat
