/- Texts of this seat's own, merged: each begins with its own remark. -/
import Derived.Test.YtcfgogamamdipaaB104
import Derived.Test.YtcfgogamamdipaaB107
import Derived.Test.YtcfgogamamdipaaB109
import Derived.Test.YtcfgogamamdipaaB112
import Derived.Test.YtcfgogamamdipaaLi
import Derived.Test.YtcfgogamamdipaaB111
import Derived.Test.YtcfgogamamdipaaB108
/- The law of layer 9 on kernels. -/
namespace Go.Proofs.Ytcfgogamamdipaa
open Go.Hp
variable {G : World} {U U' : UH} {M M' : MH}

theorem one_row {α : Type} {P : Nat → α → Prop} {a : α} (h0 : P 0 a) : ∀ k v, [a][k]? = some v → P k v
  | 0, v, h => by cases h; exact h0
  | k + 1, v, h => by simp at h

theorem gro_mid {k n : Nat} (hn : n ≤ 6) (hk : k ≤ 13000) : La.gro k n ≤ 54000000 ∧ 1 + n * La.gro k n ≤ 340000000 := by
  have h1 := La.gro_bd k n
  have h2 : 4 ^ n ≤ 4 ^ 6 := Nat.pow_le_pow_right (by decide) hn
  have h3 : 4 ^ n * (k + 2) ≤ 4 ^ 6 * (13000 + 2) := Nat.mul_le_mul h2 (by omega)
  have h4 : La.gro k n ≤ 54000000 := by
    have : (4 : Nat) ^ 6 * (13000 + 2) = 53256192 := by decide
    omega
  refine ⟨h4, ?_⟩
  have := Nat.mul_le_mul hn h4
  omega
theorem gro_one {n : Nat} (hn : n ≤ 6) : 1 ≤ La.gro 1 n ∧ La.gro 1 n ≤ 13000 := by
  have h1 := La.gro_bd 1 n
  have h2 : 4 ^ n ≤ 4 ^ 6 := Nat.pow_le_pow_right (by decide) hn
  have h3 : 4 ^ n * (1 + 2) ≤ 4 ^ 6 * (1 + 2) := Nat.mul_le_mul h2 (Nat.le_refl _)
  have : (4 : Nat) ^ 6 * (1 + 2) = 12288 := by decide
  exact ⟨La.gro_le (k := 1) (Nat.zero_le n), by omega⟩

end Go.Proofs.Ytcfgogamamdipaa

/- The law of layer 9 on inverses. -/
namespace Go.Proofs.Ytcfgogamamdipaa
open Go.Hp
variable {G : World} {U U' : UH} {M M' : MH}

theorem mm_assoc {n : Nat} (X A Y : Nat → Nat → Rat) (i j : Nat) : La.mm n (La.mm n X A) Y i j = La.mm n X (La.mm n A Y) i j := by
  show (La.sm n fun k => (La.sm n fun l => X i l * A l k) * Y k j) = La.sm n fun l => X i l * La.sm n fun k => A l k * Y k j
  rw [La.sm_congr (g := fun k => La.sm n fun l => X i l * A l k * Y k j) fun k _ => by rw [La.sm_mul'], La.sm_comm]
  exact La.sm_congr fun l _ => by
    rw [← La.sm_mul]
    exact La.sm_congr fun k _ => La.mul_assoc _ _ _
theorem mm_congr {n : Nat} {X X' A A' : Nat → Nat → Rat} {i j : Nat} (hX : ∀ k, k < n → X i k = X' i k) (hA : ∀ k, k < n → A k j = A' k j) : La.mm n X A i j = La.mm n X' A' i j :=
  La.sm_congr fun k hk => by rw [hX k hk, hA k hk]
theorem mm_idm {n : Nat} (X : Nat → Nat → Rat) {i j : Nat} (hj : j < n) : La.mm n X La.idm i j = X i j := by
  show (La.sm n fun k => X i k * La.idm k j) = _
  rw [La.sm_one j hj fun k _ hk => by unfold La.idm; rw [if_neg hk, La.mul_zero]]
  unfold La.idm
  rw [if_pos rfl, La.mul_one]

theorem span_inv {n : Nat} {A R : Nat → Nat → Rat} {p : Nat → Nat} (h : EchOf n n n A R p) : ∃ X : Nat → Nat → Rat, ∀ i j, i < n → j < n → La.mm n X A i j = La.idm i j := by
  have h1 : ∀ i, ∃ c : Nat → Rat, i < n → ∀ j, j < n → La.idm i j = La.sm n fun k => c k * A k j := fun i => by
    by_cases hi : i < n
    · obtain ⟨c, hc⟩ := h.same.lt i hi
      exact ⟨c, fun _ j hj => by rw [← h.ech.full.2 i j hi hj, hc j hj]⟩
    · exact ⟨fun _ => 0, fun h2 => absurd h2 hi⟩
  exact ⟨fun i => Classical.choose (h1 i), fun i j hi hj => (Classical.choose_spec (h1 i) hi j hj).symm⟩

theorem right_inv {n k : Nat} {A R : Nat → Nat → Rat} {p : Nat → Nat} (hs : ∀ i j, i < n → j < n → Szq (A i j) k) (h : EchOf n n n A R p) : ∃ Y : Nat → Nat → Rat, ∀ i j, i < n → j < n → La.mm n A Y i j = La.idm i j := by
  obtain ⟨r, S, q, h1, h2, h3, -⟩ := ech_small (A := La.tr A) (m := n) (n := n) (k := k) fun i j hi hj => hs j i hj hi
  have h4 : n ≤ r := La.rank_tr (A := La.tr A) h1 h2 h.ech h.same
  obtain rfl : r = n := Nat.le_antisymm h3 h4
  obtain ⟨Z, hZ⟩ := span_inv (A := La.tr A) ⟨h1, h2, Nat.le_refl r⟩
  refine ⟨La.tr Z, fun i j hi hj => ?_⟩
  have h5 := hZ j i hj hi
  rw [show La.idm i j = La.idm (K := Rat) j i by unfold La.idm; by_cases e : i = j <;> simp [e, Ne.symm], ← h5]
  exact La.sm_congr fun k _ => La.mul_comm _ _

theorem left_right {n : Nat} {A X Y : Nat → Nat → Rat} (hX : ∀ i j, i < n → j < n → La.mm n X A i j = La.idm i j) (hY : ∀ i j, i < n → j < n → La.mm n A Y i j = La.idm i j) : ∀ i j, i < n → j < n → X i j = Y i j := fun i j hi hj => by
  rw [← mm_idm X hj, ← mm_congr (X := X) (A := La.mm n A Y) (fun _ _ => rfl) (fun k hk => hY k j hk hj), ← mm_assoc, mm_congr (fun k hk => hX i k hi hk) (fun _ _ => rfl), La.idm_mm Y hi]

theorem rank_sol {n r : Nat} {A R : Nat → Nat → Rat} {p : Nat → Nat} (h : EchOf n n r A R p) : r = n ↔ ∀ i, i < n → ∃ y, La.Sol n n A (La.idm i) y := by
  refine ⟨fun e i hi => ?_, fun hy => ?_⟩
  · subst e
    obtain ⟨X, hX⟩ := span_inv h
    exact ⟨X i, fun j hj => (hX i j hi hj).symm⟩
  · refine Nat.le_antisymm h.le (La.indep_le (A := La.idm) (B := R) (n := n) (fun i hi => ?_) fun x hx i hi => ?_)
    · obtain ⟨y, hy⟩ := hy i hi
      exact h.same.sp.2 ⟨y, fun j hj => hy j hj⟩
    · rw [← hx i hi, La.sm_one i hi fun k _ hk => by unfold La.idm; rw [if_neg hk, La.mul_zero]]
      unfold La.idm
      rw [if_pos rfl, La.mul_one]

theorem dbl_small {W k n : Nat} (hn : n ≤ 6) (hW : W ≤ 13000) (hk : k ≤ 100) : La.dbl W k n ≤ 1000000 := by
  have h1 := La.dbl_bd W k n
  have h2 : 2 ^ n ≤ 2 ^ 6 := Nat.pow_le_pow_right (by decide) hn
  have h3 : 2 ^ n * (k + W + 1) ≤ 2 ^ 6 * (100 + 13000 + 1) := Nat.mul_le_mul h2 (by omega)
  have : (2 : Nat) ^ 6 * (100 + 13000 + 1) = 838464 := by decide
  omega

theorem mInverse_ct {n b : Nat} {vm : Value} {A : Nat → Nat → Rat} (hm : Vm (Wq b) n n U vm A) (hb1 : 1 ≤ b) (hg1 : 1 + n * La.gro b n ≤ 1000000000) (hgW : La.gro b n ≤ 1000000000) (hn1 : n ≤ 1000) :
    Ct Try.prog 13 [vm] G U M fun v U' D => ∃ (r : Nat) (R : Nat → Nat → Rat) (p : Nat → Nat) (vX : Value) (e : Int), v = .tuple #[vX, .int .i64 e] ∧ EchOf n n r A R p ∧ (r < n → e = 11 ∧ vX = .agg #[.int .i64 0, .int .i64 0, .slice none 0 0]) ∧
      (r = n → e = 0 ∧ ∃ X : Nat → Nat → Rat, Vm Vq n n U' vX X ∧ (∀ i j, i < n → j < n → La.mm n X A i j = La.idm i j) ∧ ∀ i j, i < n → j < n → Szq (X i j) (La.gro b n)) ∧ D = [] :=
  (mInverse_co hm hb1 hg1 hgW hn1).settle.mono fun _ _ _ _ ⟨h1, _, _, ⟨r, R, p, vX, e, h2, h3, h4, h5, _⟩, _, h7, h8⟩ =>
    ⟨r, R, p, vX, e, h2, h3, fun hr => ⟨(h4 hr).1, (h4 hr).2.1⟩, fun hr => by
      obtain ⟨h9, X, ⟨a, h10, h11⟩, h12⟩ := h5 hr
      exact ⟨h9, X, ⟨a, h10, h11.sett kept_q h7 h8⟩, h12⟩, h1⟩

end Go.Proofs.Ytcfgogamamdipaa

/- Walks of matrix: Identity, Power. -/
namespace Go.Proofs.Ytcfgogamamdipaa
open Go.Hp
variable {G : World} {U U' : UH} {M M' : MH}

theorem mIdentity_ct {n : Nat} (hn : n ≤ 1000) :
    Ct Try.prog 44 [.int .i64 (n : Int)] G U M fun v U' D => ∃ vI, v = .tuple #[vI, .int .i64 0] ∧ Vm Vq n n U' vI La.idm ∧ D = [] := by
  have hnn : n * n ≤ 1000 * 1000 := Nat.mul_le_mul hn hn
  refine (Ct.settle (R := fun v U' D => ∃ vI, v = .tuple #[vI, .int .i64 0] ∧ Vmo n n U' D vI La.idm ∧ ULe U U') ?_).mono fun _ _ _ _ ⟨h1, _, _, ⟨vI, h2, ⟨a, h3, h4⟩, _⟩, _, h5, h6⟩ => ⟨vI, h2, ⟨a, h3, h4.sett kept_q h5 h6⟩, h1⟩
  refine ct_of_st Try.func44 rfl rfl rfl rfl ?_
  repeat (first | refine run_S ?_ | refine w_box (fun _ => ?_) | refine w_al (fun _ => ?_))
  rename_i b2
  refine sl_call rfl rfl rfl rfl rfl rfl (fun _ => fits_ct (n := (n : Int))) ?_
  rintro v U' D hU ⟨rfl, rfl, rfl⟩
  repeat (first | refine run_S ?_ | refine w_box (fun _ => ?_) | refine w_al (fun _ => ?_))
  rw [decide_eq_true (show 0 ≤ (n : Int) ∧ (n : Int) ≤ 1024 from ⟨by omega, by omega⟩)]
  repeat (first | refine run_S ?_ | refine w_box (fun _ => ?_) | refine w_al (fun _ => ?_))
  refine sl_call rfl rfl rfl rfl rfl rfl (fun _ => munit_co (n := n) (by omega)) ?_
  rintro v1 U1 D1 hU1 ⟨hgu, -⟩
  repeat (first | refine run_S ?_ | refine w_box (fun _ => ?_) | refine w_al (fun _ => ?_))
  refine sl_call rfl rfl rfl rfl rfl rfl (fun _ => mstore_ct (hgu.w.lg (M := D1 ++ ([] ++ ((b2, .var (.agg #[.int .i64 0, .int .i64 0, .slice none 0 0]), TM) :: M))) sb |>.up uc sb) (by omega) (by omega) (by omega)) ?_
  rintro v6 U6 D6 hU6 ⟨⟨_, rfl, p6, c6, vs6, rfl, h6, e6⟩, -⟩
  refine sl_perm (M' := (b2, .var (.agg #[.int .i64 0, .int .i64 0, .slice none 0 0]), TM) :: (D6 ++ (D1 ++ M))) ?_ pm
  repeat (first | refine run_S ?_ | refine w_box (fun _ => ?_) | refine w_al (fun _ => ?_))
  exact sk_ret D6 sym rfl (.cons (.cell 0 rfl rfl rfl) (.cons (.tmp rfl) .nil)) uc sb (.inl rfl) ⟨_, rfl, ⟨_, rfl, p6, c6, vs6, rfl, h6, e6⟩, uc⟩

/-- The powers of a matrix. -/
def mpow (n : Nat) (A : Nat → Nat → Rat) : Nat → Nat → Nat → Rat
  | 0 => La.idm
  | k + 1 => La.mm n (mpow n A k) A
theorem mpow_add {n : Nat} {A : Nat → Nat → Rat} (a : Nat) : ∀ (b i j : Nat), i < n → j < n → La.mm n (mpow n A a) (mpow n A b) i j = mpow n A (a + b) i j
  | 0, i, j, hi, hj => mm_idm _ hj
  | b + 1, i, j, hi, hj => by
    show La.mm n (mpow n A a) (La.mm n (mpow n A b) A) i j = La.mm n (mpow n A (a + b)) A i j
    rw [← mm_assoc]
    exact mm_congr (fun k hk => mpow_add a b i k hi hk) (fun _ _ => rfl)
theorem mpow_one {n : Nat} {A : Nat → Nat → Rat} {i j : Nat} (hi : i < n) : mpow n A 1 i j = A i j := La.idm_mm A hi

theorem halve1 {w N : Nat} (h : N % 2 = 1) : (w + w) * (N / 2) + w = w * N := by
  have e : N = 2 * (N / 2) + 1 := by omega
  conv => rhs; rw [e, Nat.mul_add, Nat.mul_one, ← Nat.mul_assoc, Nat.mul_two]
theorem halve0 {w N : Nat} (h : N % 2 = 0) : (w + w) * (N / 2) = w * N := by
  have e : N = 2 * (N / 2) := by omega
  conv => rhs; rw [e, ← Nat.mul_assoc, Nat.mul_two]

theorem mPower_ct {n b S N : Nat} {va : Value} {A : Nat → Nat → Rat} (ha : Vm (Wq b) n n U va A) (hb : b ≤ S) (hS1 : 1 ≤ S) (hS : 1 + n * (2 * S + 2) + S ≤ 10000000000) (hsz : ∀ e, e ≤ N → ∀ i j, i < n → j < n → Szq (mpow n A e i j) S) (hN : N ≤ 1000) (hn : n ≤ 1000) :
    Ct Try.prog 14 [va, .int .i64 (N : Int)] G U M fun v U' D => ∃ vP, v = .tuple #[vP, .int .i64 0] ∧ Vm Vq n n U' vP (mpow n A N) ∧ D = [] := by
  have hnn : n * n ≤ 1000 * 1000 := Nat.mul_le_mul hn hn
  have ha2 := ha
  obtain ⟨_, rfl, pa, cca, as1, rfl, -⟩ := ha
  refine ct_of_st Try.func14 rfl rfl rfl rfl ?_
  repeat (first | refine run_S ?_ | refine w_box (fun _ => ?_) | refine w_al (fun _ => ?_))
  rename_i b2 b4
  refine sl_call rfl rfl rfl rfl rfl rfl (fun _ => msquare_ct (r := (n : Int)) (c := (n : Int)) (n := n * n) (p := pa) (cc := cca) (by omega)) ?_
  rintro v U' D hU ⟨rfl, rfl, rfl⟩
  repeat (first | refine run_S ?_ | refine w_box (fun _ => ?_) | refine w_al (fun _ => ?_))
  rw [decide_eq_true ⟨vld_of (by omega) (by omega), rfl⟩]
  repeat (first | refine run_S ?_ | refine w_box (fun _ => ?_) | refine w_al (fun _ => ?_))
  refine sl_gdec rfl rfl (fun h => absurd h (by omega)) (fun _ => ?_)
  repeat (first | refine run_S ?_ | refine w_box (fun _ => ?_) | refine w_al (fun _ => ?_))
  refine st_dec rfl (fun h => absurd h (by omega)) (fun _ => ?_)
  repeat (first | refine run_S ?_ | refine w_box (fun _ => ?_) | refine w_al (fun _ => ?_))
  refine sl_call rfl rfl rfl rfl rfl rfl (fun _ => mIdentity_ct hn) ?_
  rintro v1 U1 D1 hU1 ⟨_, rfl, ⟨_, rfl, p1, c1, s1, rfl, h1⟩, rfl⟩
  rw [List.nil_append]
  have hI : Vm Vq n n U1 (.agg #[.int .i64 (n : Int), .int .i64 (n : Int), .slice p1 (n * n) c1]) La.idm := ⟨_, rfl, p1, c1, s1, rfl, h1⟩
  repeat (first | refine run_S ?_ | refine w_box (fun _ => ?_) | refine w_al (fun _ => ?_))
  rename_i b6 b8
  refine st_loop (fun z E U' M' => ∃ (N' u w : Nat) (po pb : Option Addr) (co cb b8 : Nat), N' ≤ N ∧ u + w * N' = N ∧ Vm Vq n n U' (.agg #[.int .i64 (n : Int), .int .i64 (n : Int), .slice po (n * n) co]) (mpow n A u) ∧ (1 ≤ N' → Vm (Wq S) n n U' (.agg #[.int .i64 (n : Int), .int .i64 (n : Int), .slice pb (n * n) cb]) (mpow n A w)) ∧
      E = [(1, .int .i64 (N' : Int)), (6, .pointer (some ⟨b6, 0, none⟩)), (8, .pointer (some ⟨b8, 0, none⟩)), (4, .pointer (some ⟨b4, 0, none⟩))] ∧ ULe U1 U' ∧
      M' = (b8, .var (.agg #[.int .i64 (n : Int), .int .i64 (n : Int), .slice pb (n * n) cb]), TM) :: (b6, .var (.agg #[.int .i64 (n : Int), .int .i64 (n : Int), .slice po (n * n) co]), TM) :: (b4, .var (.agg #[.int .i64 0, .int .i64 0, .slice none 0 0]), TM) :: (b2, .var (.agg #[.int .i64 (n : Int), .int .i64 (n : Int), .slice pa (n * n) cca]), TM) :: M ∧ z = N') (n0 := N)
    (E0 := [(1, .int .i64 (N : Int)), (6, .pointer (some ⟨b6, 0, none⟩)), (8, .pointer (some ⟨b8, 0, none⟩)), (4, .pointer (some ⟨b4, 0, none⟩))]) ⟨rfl, rfl, rfl, rfl, trivial⟩
    ⟨N, 0, 1, p1, pa, c1, cca, b8, Nat.le_refl N, by omega, hI, (fun _ => (kept_m kept_w _ _ _ _ (show ULe U U1 from uc) (ha2.mono hb)).congr fun i j hi hj => (mpow_one hi).symm), rfl, uc, rfl, rfl⟩ ?_
  rintro N' E U2 M' ⟨_, u, w, po, pb, co, cb, b8, hNN, hN', hO, hB, rfl, hU2, rfl, rfl⟩
  try refine run_s ?_
  refine st_dec rfl (fun h => ?_) (fun h => ?_)
  · have hN1 : 1 ≤ N' := by omega
    have hw : w ≤ w * N' := Nat.le_mul_of_pos_right w hN1
    have hB1 := hB hN1
    try refine run_s ?_
    have e1 : (N' : Int).tmod 2 = ((N' % 2 : Nat) : Int) := by rw [Int.tmod_eq_emod_of_nonneg (by omega)]; omega
    have e2 : IntKind.i64.wrap ((N' : Int).tdiv 2) = ((N' / 2 : Nat) : Int) := by
      rw [Int.tdiv_eq_ediv_of_nonneg (by omega), wrap_in (by omega) (by simp only [kmax]; omega)]; omega
    rw [e1]
    have sB : ∀ i j, i < n → j < n → Szq (mpow n A w i j) S := hsz w (by omega)
    have half : N' / 2 * 2 + N' % 2 = N' := by omega
    refine st_eq rfl (fun h1 => ?_) (fun h1 => ?_)
    · repeat (first | refine run_S ?_ | refine w_box (fun _ => ?_) | refine w_al (fun _ => ?_))
      refine sl_call rfl rfl rfl rfl rfl rfl (fun _ => mMul_ct (b := S) (kept_m kept_w _ _ _ _ uc (hO.w (hsz u (by omega)))) (kept_m kept_w _ _ _ _ uc hB1) hS1 hS hn hn hn) ?_
      rintro v3 U3 D3 hU3 ⟨_, rfl, ⟨_, rfl, p3, c3, s3, rfl, h3⟩, rfl⟩
      rw [List.nil_append]
      have hO3 : Vm Vq n n U3 (.agg #[.int .i64 (n : Int), .int .i64 (n : Int), .slice p3 (n * n) c3]) (mpow n A (u + w)) := Vm.congr ⟨_, rfl, p3, c3, s3, rfl, h3⟩ fun i j hi hj => mpow_add u w i j hi hj
      repeat (first | refine run_S ?_ | refine w_box (fun _ => ?_) | refine w_al (fun _ => ?_))
      refine st_dec rfl (fun h2 => ?_) (fun h2 => ?_)
      · repeat (first | refine run_S ?_ | refine w_box (fun _ => ?_) | refine w_al (fun _ => ?_))
        refine sl_call rfl rfl rfl rfl rfl rfl (fun _ => mMul_ct (b := S) (kept_m kept_w _ _ _ _ uc hB1) (kept_m kept_w _ _ _ _ uc hB1) hS1 hS hn hn hn) ?_
        rintro v4 U4 D4 hU4 ⟨_, rfl, ⟨_, rfl, p4, c4, s4, rfl, h4⟩, rfl⟩
        rw [List.nil_append]
        have hB4 : Vm Vq n n U4 (.agg #[.int .i64 (n : Int), .int .i64 (n : Int), .slice p4 (n * n) c4]) (mpow n A (w + w)) := Vm.congr ⟨_, rfl, p4, c4, s4, rfl, h4⟩ fun i j hi hj => mpow_add w w i j hi hj
        have hw2 : w * 2 ≤ w * N' := Nat.mul_le_mul_left w (by omega)
        repeat (first | refine run_S ?_ | refine w_box (fun _ => ?_) | refine w_al (fun _ => ?_))
        rename_i b9
        rw [e2]
        refine sk_anti (M := (b9, .var (.agg #[.int .i64 (n : Int), .int .i64 (n : Int), .slice p4 (n * n) c4]), TM) :: (b8, .var (.agg #[.int .i64 (n : Int), .int .i64 (n : Int), .slice p4 (n * n) c4]), TM) :: (b6, .var (.agg #[.int .i64 (n : Int), .int .i64 (n : Int), .slice p3 (n * n) c3]), TM) :: (b4, .var (.agg #[.int .i64 0, .int .i64 0, .slice none 0 0]), TM) :: (b2, .var (.agg #[.int .i64 (n : Int), .int .i64 (n : Int), .slice pa (n * n) cca]), TM) :: M) (M' := (b9, .var (.agg #[.int .i64 (n : Int), .int .i64 (n : Int), .slice p4 (n * n) c4]), TM) :: (b6, .var (.agg #[.int .i64 (n : Int), .int .i64 (n : Int), .slice p3 (n * n) c3]), TM) :: (b4, .var (.agg #[.int .i64 0, .int .i64 0, .slice none 0 0]), TM) :: (b2, .var (.agg #[.int .i64 (n : Int), .int .i64 (n : Int), .slice pa (n * n) cca]), TM) :: M) (ULe.refl _) (List.Sublist.cons_cons _ (List.sublist_cons_self ..)) ?_
        exact sk_again (E' := [(1, .int .i64 ((N' / 2 : Nat) : Int)), (6, .pointer (some ⟨b6, 0, none⟩)), (8, .pointer (some ⟨b9, 0, none⟩)), (4, .pointer (some ⟨b4, 0, none⟩))]) (m := N' / 2) ⟨rfl, rfl, rfl, rfl, trivial⟩ (by omega)
          ⟨N' / 2, u + w, w + w, p3, p4, c3, c4, b9, by omega, by have := halve1 (w := w) (N := N') (by omega); omega, kept_m kept_q _ _ _ _ uc hO3, (fun _ => kept_m kept_w _ _ _ _ uc (hB4.w (hsz (w + w) (by omega)))), rfl, uc, rfl, rfl⟩
      · repeat (first | refine run_S ?_ | refine w_box (fun _ => ?_) | refine w_al (fun _ => ?_))
        repeat (first | refine run_S ?_ | refine w_box (fun _ => ?_) | refine w_al (fun _ => ?_))
        rename_i b9
        rw [e2]
        refine sk_anti (M := (b9, .var (.agg #[.int .i64 (n : Int), .int .i64 (n : Int), .slice pb (n * n) cb]), TM) :: (b8, .var (.agg #[.int .i64 (n : Int), .int .i64 (n : Int), .slice pb (n * n) cb]), TM) :: (b6, .var (.agg #[.int .i64 (n : Int), .int .i64 (n : Int), .slice p3 (n * n) c3]), TM) :: (b4, .var (.agg #[.int .i64 0, .int .i64 0, .slice none 0 0]), TM) :: (b2, .var (.agg #[.int .i64 (n : Int), .int .i64 (n : Int), .slice pa (n * n) cca]), TM) :: M) (M' := (b9, .var (.agg #[.int .i64 (n : Int), .int .i64 (n : Int), .slice pb (n * n) cb]), TM) :: (b6, .var (.agg #[.int .i64 (n : Int), .int .i64 (n : Int), .slice p3 (n * n) c3]), TM) :: (b4, .var (.agg #[.int .i64 0, .int .i64 0, .slice none 0 0]), TM) :: (b2, .var (.agg #[.int .i64 (n : Int), .int .i64 (n : Int), .slice pa (n * n) cca]), TM) :: M) (ULe.refl _) (List.Sublist.cons_cons _ (List.sublist_cons_self ..)) ?_
        exact sk_again (E' := [(1, .int .i64 ((N' / 2 : Nat) : Int)), (6, .pointer (some ⟨b6, 0, none⟩)), (8, .pointer (some ⟨b9, 0, none⟩)), (4, .pointer (some ⟨b4, 0, none⟩))]) (m := N' / 2) ⟨rfl, rfl, rfl, rfl, trivial⟩ (by omega)
          ⟨N' / 2, u + w, w, p3, pb, c3, cb, b9, by omega, by rw [show N' / 2 = 0 by omega, Nat.mul_zero]; rw [show N' = 1 by omega, Nat.mul_one] at hN'; omega, kept_m kept_q _ _ _ _ uc hO3, (fun h => absurd h (by omega)), rfl, uc, rfl, rfl⟩
    · repeat (first | refine run_S ?_ | refine w_box (fun _ => ?_) | refine w_al (fun _ => ?_))
      refine st_dec rfl (fun h2 => ?_) (fun h2 => ?_)
      · repeat (first | refine run_S ?_ | refine w_box (fun _ => ?_) | refine w_al (fun _ => ?_))
        refine sl_call rfl rfl rfl rfl rfl rfl (fun _ => mMul_ct (b := S) (kept_m kept_w _ _ _ _ uc hB1) (kept_m kept_w _ _ _ _ uc hB1) hS1 hS hn hn hn) ?_
        rintro v4 U4 D4 hU4 ⟨_, rfl, ⟨_, rfl, p4, c4, s4, rfl, h4⟩, rfl⟩
        rw [List.nil_append]
        have hB4 : Vm Vq n n U4 (.agg #[.int .i64 (n : Int), .int .i64 (n : Int), .slice p4 (n * n) c4]) (mpow n A (w + w)) := Vm.congr ⟨_, rfl, p4, c4, s4, rfl, h4⟩ fun i j hi hj => mpow_add w w i j hi hj
        have hw2 : w * 2 ≤ w * N' := Nat.mul_le_mul_left w (by omega)
        repeat (first | refine run_S ?_ | refine w_box (fun _ => ?_) | refine w_al (fun _ => ?_))
        rename_i b9
        rw [e2]
        refine sk_anti (M := (b9, .var (.agg #[.int .i64 (n : Int), .int .i64 (n : Int), .slice p4 (n * n) c4]), TM) :: (b8, .var (.agg #[.int .i64 (n : Int), .int .i64 (n : Int), .slice p4 (n * n) c4]), TM) :: (b6, .var (.agg #[.int .i64 (n : Int), .int .i64 (n : Int), .slice po (n * n) co]), TM) :: (b4, .var (.agg #[.int .i64 0, .int .i64 0, .slice none 0 0]), TM) :: (b2, .var (.agg #[.int .i64 (n : Int), .int .i64 (n : Int), .slice pa (n * n) cca]), TM) :: M) (M' := (b9, .var (.agg #[.int .i64 (n : Int), .int .i64 (n : Int), .slice p4 (n * n) c4]), TM) :: (b6, .var (.agg #[.int .i64 (n : Int), .int .i64 (n : Int), .slice po (n * n) co]), TM) :: (b4, .var (.agg #[.int .i64 0, .int .i64 0, .slice none 0 0]), TM) :: (b2, .var (.agg #[.int .i64 (n : Int), .int .i64 (n : Int), .slice pa (n * n) cca]), TM) :: M) (ULe.refl _) (List.Sublist.cons_cons _ (List.sublist_cons_self ..)) ?_
        exact sk_again (E' := [(1, .int .i64 ((N' / 2 : Nat) : Int)), (6, .pointer (some ⟨b6, 0, none⟩)), (8, .pointer (some ⟨b9, 0, none⟩)), (4, .pointer (some ⟨b4, 0, none⟩))]) (m := N' / 2) ⟨rfl, rfl, rfl, rfl, trivial⟩ (by omega)
          ⟨N' / 2, u, w + w, po, p4, co, c4, b9, by omega, by have := halve0 (w := w) (N := N') (by omega); omega, kept_m kept_q _ _ _ _ uc hO, (fun _ => kept_m kept_w _ _ _ _ uc (hB4.w (hsz (w + w) (by omega)))), rfl, uc, rfl, rfl⟩
      · exact absurd h2 (by omega)
  · have e : N' = 0 := by omega
    subst e
    rw [Nat.mul_zero, Nat.add_zero] at hN'
    subst hN'
    repeat (first | refine run_S ?_ | refine w_box (fun _ => ?_) | refine w_al (fun _ => ?_))
    exact sk_ret [] sym rfl (.cons (.cell 2 rfl rfl rfl) (.cons (.tmp rfl) .nil)) uc sb (.inl rfl) ⟨_, rfl, kept_m kept_q _ _ _ _ uc hO, rfl⟩

end Go.Proofs.Ytcfgogamamdipaa

/- The law of layer 9 on powers. -/
namespace Go.Proofs.Ytcfgogamamdipaa
open Go.Hp
variable {G : World} {U U' : UH} {M M' : MH}

/-- Sizes of powers. -/
def psz (n b : Nat) : Nat → Nat
  | 0 => 1
  | k + 1 => 1 + n * (psz n b k + b + 1)
theorem psz_ok {n b : Nat} {A : Nat → Nat → Rat} (hA : ∀ i j, i < n → j < n → Szq (A i j) b) : ∀ k i j, i < n → j < n → Szq (mpow n A k i j) (psz n b k)
  | 0, i, j, _, _ => by
    show Szq (La.idm i j) 1
    unfold La.idm
    split
    · exact szq_int1
    · exact szq_int0
  | k + 1, i, j, hi, hj => szq_sm fun l hl => (psz_ok hA k i l hi hl).mul (hA l j hl hj)
theorem psz_bd {n : Nat} (hn : n ≤ 4) : ∀ k, psz n 1 k + 3 ≤ 4 ^ k * 4
  | 0 => by simp [psz]
  | k + 1 => by
    have h1 := psz_bd hn k
    have h2 : n * (psz n 1 k + 1 + 1) ≤ 4 * (psz n 1 k + 1 + 1) := Nat.mul_le_mul_right _ hn
    have e : 4 ^ (k + 1) * 4 = 4 * (4 ^ k * 4) := by rw [Nat.pow_succ, Nat.mul_comm (4 ^ k) 4, Nat.mul_assoc, Nat.mul_comm 4 (4 ^ k)]
    rw [e]; show 1 + n * (psz n 1 k + 1 + 1) + 3 ≤ _
    omega
theorem psz_le {n k : Nat} (hn : n ≤ 4) (hk : k ≤ 11) : psz n 1 k ≤ 16777216 := by
  have h1 := psz_bd hn k
  have h2 : 4 ^ k ≤ 4 ^ 11 := Nat.pow_le_pow_right (by decide) hk
  have h3 : 4 ^ k * 4 ≤ 4 ^ 11 * 4 := Nat.mul_le_mul_right 4 h2
  have : (4 : Nat) ^ 11 * 4 = 16777216 := by decide
  omega

theorem mPower_err {n : Nat} {N : Int} {pa : Option Addr} {cca : Nat} (hN : N < 0 ∨ N > 1000) (hn : n ≤ 1000) :
    Ct Try.prog 14 [.agg #[.int .i64 (n : Int), .int .i64 (n : Int), .slice pa (n * n) cca], .int .i64 N] G U M fun v U' D => v = .tuple #[.agg #[.int .i64 0, .int .i64 0, .slice none 0 0], .int .i64 2] ∧ U = U' ∧ D = [] := by
  have hnn : n * n ≤ 1000 * 1000 := Nat.mul_le_mul hn hn
  refine ct_of_st Try.func14 rfl rfl rfl rfl ?_
  repeat (first | refine run_S ?_ | refine w_box (fun _ => ?_) | refine w_al (fun _ => ?_))
  refine sl_call rfl rfl rfl rfl rfl rfl (fun _ => msquare_ct (r := (n : Int)) (c := (n : Int)) (n := n * n) (p := pa) (cc := cca) (by omega)) ?_
  rintro v U' D hU ⟨rfl, rfl, rfl⟩
  repeat (first | refine run_S ?_ | refine w_box (fun _ => ?_) | refine w_al (fun _ => ?_))
  rw [decide_eq_true ⟨vld_of (by omega) (by omega), rfl⟩]
  repeat (first | refine run_S ?_ | refine w_box (fun _ => ?_) | refine w_al (fun _ => ?_))
  refine sl_gdec rfl rfl (fun h => ?_) (fun h => ?_)
  · repeat (first | refine run_S ?_ | refine w_box (fun _ => ?_) | refine w_al (fun _ => ?_))
    exact sk_ret [] sym rfl (.cons (.cell 0 rfl rfl rfl) (.cons (.tmp rfl) .nil)) uc sb (.inl rfl) ⟨rfl, rfl, rfl⟩
  · repeat (first | refine run_S ?_ | refine w_box (fun _ => ?_) | refine w_al (fun _ => ?_))
    refine st_dec rfl (fun h => ?_) (fun h => absurd hN (by omega))
    repeat (first | refine run_S ?_ | refine w_box (fun _ => ?_) | refine w_al (fun _ => ?_))
    exact sk_ret [] sym rfl (.cons (.cell 0 rfl rfl rfl) (.cons (.tmp rfl) .nil)) uc sb (.inl rfl) ⟨rfl, rfl, rfl⟩

end Go.Proofs.Ytcfgogamamdipaa

/- The law of layer 9 on solutions. -/
namespace Go.Proofs.Ytcfgogamamdipaa
open Go.Hp
variable {G : World} {U U' : UH} {M M' : MH}

/-- A list of raw fractions among the arguments. -/
def Rats (U : UH) (v : Value) (n : Nat) (f : Nat → Rat) : Prop := n ≤ 9223372036854775807 ∧ Ls Xq 4 n U [] v f

theorem dbl_mid {W k n : Nat} (hn : n ≤ 6) (hW : W ≤ 54000000) (hk : k ≤ 1000000) : La.dbl W k n ≤ 4000000000 := by
  have h1 := La.dbl_bd W k n
  have h2 : 2 ^ n ≤ 2 ^ 6 := Nat.pow_le_pow_right (by decide) hn
  have h3 : 2 ^ n * (k + W + 1) ≤ 2 ^ 6 * (1000000 + 54000000 + 1) := Nat.mul_le_mul h2 (by omega)
  have : (2 : Nat) ^ 6 * (1000000 + 54000000 + 1) = 3520000064 := by decide
  omega

end Go.Proofs.Ytcfgogamamdipaa
