/- The law of layer 9 on kernels. -/
import Derived.Test.YtcfgogamamdipaaGreatB104
import Derived.Test.YtcfgogamamdipaaGreatB107
import Derived.Test.YtcfgogamamdipaaGreatB109
import Derived.Test.YtcfgogamamdipaaGreatB112
import Derived.Test.YtcfgogamamdipaaGreatLi
namespace Go.Proofs.YtcfgogamamdipaaGreat
open Go.Hp
variable {G : World} {U U' : UH} {M M' : MH}

theorem bZeros_ct {n : Nat} (hn : n ≤ 1000000000) :
    Ct Tryz.prog 38 [.int .i64 (n : Int)] G U M fun v U' D => Lo Vq TR 4 n U' D v (fun _ => (0 : Rat)) ∧ ULe U U' := by
  refine ct_of_st Tryz.func38 rfl rfl rfl rfl ?_
  repeat (first | refine run_S ?_ | refine w_box (fun _ => ?_) | refine w_al (fun _ => ?_))
  refine st_loop (fun m E U' M' => ∃ (i : Nat) (p : Option Addr) (c : Nat) (vs : List Value) (D : MH), i ≤ n ∧ RowO TR 4 D p i c vs ∧ El Vq U' vs (fun _ => (0 : Rat)) ∧ E = [(3, .slice p i c), (4, .int .i64 (i : Int)), (0, .int .i64 (n : Int))] ∧ ULe U U' ∧ M' = D ++ M ∧ m = n - i) (n0 := n)
    (E0 := [(3, .slice none 0 0), (4, .int .i64 ((0 : Nat) : Int)), (0, .int .i64 (n : Int))]) ⟨rfl, rfl, rfl, trivial⟩ ⟨0, none, 0, [], [], by omega, RowO.nil, El.nil, rfl, uc, rfl, rfl⟩ ?_
  rintro m E U' M' ⟨i, p, c, vs, D, hi, hrow, hel, rfl, hU, rfl, rfl⟩
  try refine run_s ?_
  refine st_dec rfl (fun h => ?_) (fun h => ?_)
  · try refine run_s ?_
    refine sl_call rfl rfl rfl rfl rfl rfl (fun _ => (bQ_ct (z := 0) (by decide) (by decide)).settle) ?_
    rintro v Uh1 D hU ⟨rfl, _, _, ⟨xh1, rfl, h1, -⟩, -, -, hs⟩
    replace h1 := h1.sett hs
    clear hs
    repeat (first | refine run_S ?_ | refine w_box (fun _ => ?_) | refine w_al (fun _ => ?_))
    refine w_push hrow (List.Perm.refl _) (fun bhr2 phr2 chr2 Dhr2 hr2 => ?_)
    repeat (first | refine run_S ?_ | refine w_box (fun _ => ?_) | refine w_al (fun _ => ?_))
    exact sk_again (E' := [(3, .slice phr2 (i + 1) chr2), (4, .int .i64 ((i : Int) + 1)), (0, .int .i64 (n : Int))]) (m := n - (i + 1)) ⟨rfl, rfl, rfl, trivial⟩ (by omega)
      ⟨i + 1, phr2, chr2, _, Dhr2, by omega, hr2, snoc_ok hrow.len.1 (hel.up kept_q uc) ⟨xh1, rfl, h1⟩, rfl, uc, rfl, rfl⟩
  · try refine run_s ?_
    have e : i = n := by omega
    subst e
    exact sk_ret D sym rfl (.cons (.tmp rfl) .nil) uc sb (.inl rfl) ⟨⟨p, c, vs, rfl, hrow, hel⟩, uc⟩

theorem one_row {α : Type} {P : Nat → α → Prop} {a : α} (h0 : P 0 a) : ∀ k v, [a][k]? = some v → P k v
  | 0, v, h => by cases h; exact h0
  | k + 1, v, h => by simp at h

theorem gro_mid {k n : Nat} (hn : n ≤ 6) (hk : k ≤ 13000) : La.gro k n ≤ 54000000 ∧ 1 + n * La.gro k n ≤ 340000000 := by
  have h1 := La.gro_bd k n
  have h2 : 4 ^ n ≤ 4 ^ 6 := Nat.pow_le_pow_right (by decide) hn
  have h3 : 4 ^ n * (k + 2) ≤ 4 ^ 6 * (13000 + 2) := Nat.mul_le_mul h2 (by omega)
  have h4 : La.gro k n ≤ 54000000 := by
    have : (4 : Nat) ^ 6 * (13000 + 2) = 53256192 := by decide
    omega
  refine ⟨h4, ?_⟩
  have := Nat.mul_le_mul hn h4
  omega
theorem gro_one {n : Nat} (hn : n ≤ 6) : 1 ≤ La.gro 1 n ∧ La.gro 1 n ≤ 13000 := by
  have h1 := La.gro_bd 1 n
  have h2 : 4 ^ n ≤ 4 ^ 6 := Nat.pow_le_pow_right (by decide) hn
  have h3 : 4 ^ n * (1 + 2) ≤ 4 ^ 6 * (1 + 2) := Nat.mul_le_mul h2 (Nat.le_refl _)
  have : (4 : Nat) ^ 6 * (1 + 2) = 12288 := by decide
  exact ⟨La.gro_le (k := 1) (Nat.zero_le n), by omega⟩

set_option maxRecDepth 100000 in
theorem MatrixKernels_ct {va : Value} {ra ca : Int} {na : Nat} {fa : Nat → Rat} (ha : Raw U va ra ca na fa) :
    Ct Tryz.prog 9 [va] G U M fun v _ _ => v = .bool true := by
  have ha0 := ha
  obtain ⟨ha1, ha2, ha3, _, rfl, pa, cca, asa, rfl, -⟩ := ha
  refine ct_of_st Tryz.func9 rfl rfl rfl rfl ?_
  repeat (first | refine run_S ?_ | refine w_box (fun _ => ?_) | refine w_al (fun _ => ?_))
  rename_i b2
  refine sl_call rfl rfl rfl rfl rfl rfl (fun _ => awake9_ct) ?_
  rintro v1 U1 D hU1 ⟨rfl, -, rfl⟩
  rw [List.nil_append]
  repeat (first | refine run_S ?_ | refine w_box (fun _ => ?_) | refine w_al (fun _ => ?_))
  refine sl_bslice (vs := [.agg #[.int .i64 ra, .int .i64 ca, .slice pa na cca]]) sym rfl rfl rfl rfl rfl rfl (all_size rfl) rfl rfl rfl rfl rfl rfl (fun bl => ?_)
  have hrl := (RowO.mk (e := TM) (s := 3) (b := bl) (n := 1) (vs := [.agg #[.int .i64 ra, .int .i64 ca, .slice pa na cca]]) rfl (all_size rfl) (by omega)).at (U := U1) (M := (bl, .arr [.agg #[.int .i64 ra, .int .i64 ca, .slice pa na cca]], TM) :: (b2, .var (.agg #[.int .i64 ra, .int .i64 ca, .slice pa na cca]), TM) :: M) sb
  refine sl_call rfl rfl rfl rfl rfl rfl (fun _ => light_ct (most := 6) (r := fun _ => ra) (c := fun _ => ca) (n := fun _ => na) (f := fun _ => fa) (hrl.up uc sb) (one_row (P := fun _ v => Raw U1 v ra ca na fa) (ha0.up uc)) (by decide) (by decide)) ?_
  rintro v2 U2 D hU2 ⟨b, rfl, hl, rfl, rfl⟩
  rw [List.nil_append]
  cases b
  · repeat (first | refine run_S ?_ | refine w_box (fun _ => ?_) | refine w_al (fun _ => ?_))
    exact sk_ret [] sym rfl (.cons (.tmp rfl) .nil) uc sb (.inl rfl) rfl
  have la : Lit 6 U1 _ ra ca na fa := hl rfl 0 _ rfl
  clear hl hrl
  repeat (first | refine run_S ?_ | refine w_box (fun _ => ?_) | refine w_al (fun _ => ?_))
  refine sl_call rfl rfl rfl rfl rfl rfl (fun _ => m9Valid_ct (r := ra) (c := ca) (p := pa) (cc := cca) ha3) ?_
  rintro v U' D hU ⟨rfl, rfl, rfl⟩
  repeat (first | refine run_S ?_ | refine w_box (fun _ => ?_) | refine w_al (fun _ => ?_))
  by_cases hVa : Vld ra ca na
  · rw [decide_eq_true hVa]
    obtain ⟨m, n, rfl, rfl, hm6, hn6, hA⟩ := la.vm hVa
    generalize (fun i j => fa (i * n + j)) = A at hA
    have g1 := gro_small (k := 1) (n := m) (by omega) (by decide)
    obtain ⟨g2, g3⟩ := gro_one hm6
    have g4 := gro_mid (k := La.gro 1 m) hm6 g3
    have sA : ∀ i j, i < m → j < n → Szq (A i j) 1 := fun i j hi hj => hA.sz (Nat.le_refl 1) hi hj
    have hmn : ∀ {x y : Nat}, x ≤ 6 → y ≤ 6 → x * y ≤ 36 := fun hx hy => Nat.le_trans (Nat.mul_le_mul hx hy) (by decide)
    clear la
    repeat (first | refine run_S ?_ | refine w_box (fun _ => ?_) | refine w_al (fun _ => ?_))
    refine sl_call rfl rfl rfl rfl rfl rfl (fun _ => mKernel_ct (kept_m kept_w _ _ _ _ uc hA) (Nat.le_refl 1) (by omega) (by omega) (by omega) (by omega) (by omega)) ?_
    rintro v3 U3 D hU3 ⟨s, K, q, vK, rfl, h3, rfl, hk, -, r, R, p, e1, hsr⟩
    rw [List.nil_append]
    obtain ⟨_, rfl, pK, cK, ks, rfl, -⟩ := id h3
    have sK := KerOf.small hk (Nat.le_refl 1) sA
    repeat (first | refine run_S ?_ | refine w_box (fun _ => ?_) | refine w_al (fun _ => ?_))
    refine sl_call rfl rfl rfl rfl rfl rfl (fun _ => mRank_ct (kept_m kept_w _ _ _ _ uc hA) (Nat.le_refl 1) (by omega) (by omega) (by omega) (by omega)) ?_
    rintro v5 U5 D hU5 ⟨r2, E2, p2, rfl, e2, -, rfl⟩
    rw [List.nil_append]
    obtain ⟨q1, -, -⟩ := e1.unique e2
    obtain rfl := q1
    repeat (first | refine run_S ?_ | refine w_box (fun _ => ?_) | refine w_al (fun _ => ?_))
    refine st_draw [0, 1, 2, 3, 4, 5, 6, 7, 8, 9, 10, 11, 12, 13, 14, 15, 16, 17, 18, 19, 20, 21, 22, 23, 24, 25, 26, 27, 28] sym (by kernel_rfl) ?_
    repeat (first | refine run_S ?_ | refine w_box (fun _ => ?_) | refine w_al (fun _ => ?_))
    refine sl_gdec rfl rfl (fun h => absurd rfl h) (fun _ => ?_)
    repeat (first | refine run_S ?_ | refine w_box (fun _ => ?_) | refine w_al (fun _ => ?_))
    refine sl_gdec rfl rfl (fun h => absurd rfl h) (fun _ => ?_)
    repeat (first | refine run_S ?_ | refine w_box (fun _ => ?_) | refine w_al (fun _ => ?_))
    refine sl_call rfl rfl rfl rfl rfl rfl (fun _ => m9Kernel_ct (kept_m kept_w _ _ _ _ uc hA) (Nat.le_refl 1) (by omega) (by omega) (by omega)) ?_
    rintro v6 U6 D hU6 ⟨s3, K3, q3, h6, rfl, hk3⟩
    rw [List.nil_append]
    obtain ⟨f1, -, f3⟩ := hk.unique hk3
    obtain rfl := f1
    obtain ⟨_, rfl, pK3, cK3, ks3, rfl, -⟩ := id h6
    have hsm := hk.ech.le_n
    have hss := hmn (show s ≤ 6 by omega) hm6
    have hsn := hmn (show s ≤ 6 by omega) hn6
    repeat (first | refine run_S ?_ | refine w_box (fun _ => ?_) | refine w_al (fun _ => ?_))
    refine sl_call rfl rfl rfl rfl rfl rfl (fun _ => bSameMatrix_ct (kept_m kept_q _ _ _ _ uc h3) (kept_m kept_q _ _ _ _ uc h6) (by omega) (by omega)) ?_
    rintro v8 U8 D hU8 ⟨b8, rfl, hb8, rfl, rfl⟩
    rw [List.nil_append]
    obtain rfl := hb8.2 ⟨rfl, rfl, f3⟩
    repeat (first | refine run_S ?_ | refine w_box (fun _ => ?_) | refine w_al (fun _ => ?_))
    refine sl_gdec rfl rfl (fun h => absurd h (by omega)) (fun _ => ?_)
    repeat (first | refine run_S ?_ | refine w_box (fun _ => ?_) | refine w_al (fun _ => ?_))
    refine st_ne rfl (fun h => absurd rfl h) (fun _ => ?_)
    repeat (first | refine run_S ?_ | refine w_box (fun _ => ?_) | refine w_al (fun _ => ?_))
    have hK2 : Vm (Wq (La.gro 1 m)) s m U3 (.agg #[.int .i64 (s : Int), .int .i64 (m : Int), .slice pK (s * m) cK]) K := h3.w sK
    have g5 : La.gro (La.gro 1 m) s ≤ La.gro (La.gro 1 m) m := La.gro_le hsm
    have g6 : 1 + s * La.gro (La.gro 1 m) s ≤ 1 + m * La.gro (La.gro 1 m) m := Nat.add_le_add_left (Nat.mul_le_mul hsm g5) 1
    refine sl_call rfl rfl rfl rfl rfl rfl (fun _ => mEchelon_ct (kept_m kept_w _ _ _ _ uc hK2) g2 (by omega) (by omega) (by omega) (by omega)) ?_
    rintro v9 U9 D hU9 ⟨r9, E9, p9, vR9, vp9, rfl, h9, h10, rfl, e9, -⟩
    rw [List.nil_append]
    obtain ⟨j1, -, j3⟩ := (show EchOf s m s K K q from ⟨hk.ech, La.Same.refl, Nat.le_refl s⟩).unique e9
    obtain rfl := j1
    obtain ⟨_, rfl, pR9, cR9, rs9, rfl, -⟩ := id h9
    obtain ⟨pp9, cp9, ps9, rfl, -⟩ := id h10
    repeat (first | refine run_S ?_ | refine w_box (fun _ => ?_) | refine w_al (fun _ => ?_))
    refine sl_call rfl rfl rfl rfl rfl rfl (fun _ => mMul_ct (b := La.gro 1 m) (kept_m kept_w _ _ _ _ uc hK2) ((kept_m kept_w _ _ _ _ uc hA).mono g2) g2 (by have := Nat.mul_le_mul hm6 (show 2 * La.gro 1 m + 2 ≤ 26002 by omega); omega) (by omega) (by omega) (by omega)) ?_
    rintro v11 U11 D hU11 ⟨vC, rfl, h11, rfl⟩
    rw [List.nil_append]
    obtain ⟨_, rfl, pC, cC, cs, rfl, h12⟩ := id h11
    repeat (first | refine run_S ?_ | refine w_box (fun _ => ?_) | refine w_al (fun _ => ?_))
    refine st_draw [0, 1, 2, 3, 4, 5, 6, 7, 8, 9, 10, 11, 12, 13, 14, 15, 16, 17, 18, 19, 20, 21, 22] sym (by kernel_rfl) ?_
    repeat (first | refine run_S ?_ | refine w_box (fun _ => ?_) | refine w_al (fun _ => ?_))
    refine sl_gdec rfl rfl (fun h => ?_) (fun h => absurd rfl h)
    repeat (first | refine run_S ?_ | refine w_box (fun _ => ?_) | refine w_al (fun _ => ?_))
    refine sl_gdec rfl rfl (fun h => ?_) (fun h => absurd rfl h)
    repeat (first | refine run_S ?_ | refine w_box (fun _ => ?_) | refine w_al (fun _ => ?_))
    refine sl_call rfl rfl rfl rfl rfl rfl (fun _ => bSameMatrix_ct (kept_m kept_q _ _ _ _ uc h9) (kept_m kept_q _ _ _ _ uc h3) (by omega) (by omega)) ?_
    rintro v13 U13 D hU13 ⟨b13, rfl, hb13, rfl, rfl⟩
    rw [List.nil_append]
    obtain rfl := hb13.2 ⟨rfl, rfl, fun i j hi hj => (j3 i j hi hj).symm⟩
    repeat (first | refine run_S ?_ | refine w_box (fun _ => ?_) | refine w_al (fun _ => ?_))
    refine sl_call rfl rfl rfl rfl rfl rfl (fun _ => (bZeros_ct (n := s * n) (by omega)).setl kept_q) ?_
    rintro v14 U14 D hU14 ⟨h14, rfl⟩
    rw [List.nil_append]
    repeat (first | refine run_S ?_ | refine w_box (fun _ => ?_) | refine w_al (fun _ => ?_))
    refine sl_call rfl rfl rfl rfl rfl rfl (fun _ => bSameRats_ct (m := s * n) (n := s * n) (Ls.up (M' := _) ⟨pC, cC, cs, rfl, h12⟩ kept_q uc sb) (Ls.up (M' := _) h14 kept_q uc sb) (by omega) (by omega)) ?_
    rintro v15 U15 D hU15 ⟨b15, rfl, hb15, rfl, rfl⟩
    rw [List.nil_append]
    obtain rfl := hb15.2 ⟨rfl, fun i hi => ((hk.sp _).2 (La.Sp.row (fl_lt hi).1)) _ (fl_lt hi).2⟩
    repeat (first | refine run_S ?_ | refine w_box (fun _ => ?_) | refine w_al (fun _ => ?_))
    exact sk_ret [] sym rfl (.cons (.tmp rfl) .nil) uc sb (.inl rfl) rfl
  · rw [decide_eq_false hVa]
    repeat (first | refine run_S ?_ | refine w_box (fun _ => ?_) | refine w_al (fun _ => ?_))
    exact sk_ret [] sym rfl (.cons (.tmp rfl) .nil) uc sb (.inl rfl) rfl

end Go.Proofs.YtcfgogamamdipaaGreat
