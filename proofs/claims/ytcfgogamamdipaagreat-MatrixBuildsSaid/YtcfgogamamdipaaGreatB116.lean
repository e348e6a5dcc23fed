/- Walks of matrix: Identity, Power. -/
import Derived.Test.YtcfgogamamdipaaGreatB114
namespace Go.Proofs.YtcfgogamamdipaaGreat
open Go.Hp
variable {G : World} {U U' : UH} {M M' : MH}

theorem mIdentity_ct {n : Nat} (hn : n ≤ 1000) :
    Ct Tryz.prog 36 [.int .i64 (n : Int)] G U M fun v U' D => ∃ vI, v = .tuple #[vI, .int .i64 0] ∧ Vm Vq n n U' vI La.idm ∧ D = [] := by
  have hnn : n * n ≤ 1000 * 1000 := Nat.mul_le_mul hn hn
  refine (Ct.settle (R := fun v U' D => ∃ vI, v = .tuple #[vI, .int .i64 0] ∧ Vmo n n U' D vI La.idm ∧ ULe U U') ?_).mono fun _ _ _ _ ⟨h1, _, _, ⟨vI, h2, ⟨a, h3, h4⟩, _⟩, _, h5, h6⟩ => ⟨vI, h2, ⟨a, h3, h4.sett kept_q h5 h6⟩, h1⟩
  refine ct_of_st Tryz.func36 rfl rfl rfl rfl ?_
  repeat (first | refine run_S ?_ | refine w_box (fun _ => ?_) | refine w_al (fun _ => ?_))
  rename_i b2
  refine sl_call rfl rfl rfl rfl rfl rfl (fun _ => fits_ct (n := (n : Int))) ?_
  rintro v U' D hU ⟨rfl, rfl, rfl⟩
  repeat (first | refine run_S ?_ | refine w_box (fun _ => ?_) | refine w_al (fun _ => ?_))
  rw [decide_eq_true (show 0 ≤ (n : Int) ∧ (n : Int) ≤ 1024 from ⟨by omega, by omega⟩)]
  repeat (first | refine run_S ?_ | refine w_box (fun _ => ?_) | refine w_al (fun _ => ?_))
  refine sl_call rfl rfl rfl rfl rfl rfl (fun _ => munit_co (n := n) (by omega)) ?_
  rintro v1 U1 D1 hU1 ⟨hgu, -⟩
  repeat (first | refine run_S ?_ | refine w_box (fun _ => ?_) | refine w_al (fun _ => ?_))
  refine sl_call rfl rfl rfl rfl rfl rfl (fun _ => mstore_ct (hgu.w.lg (M := D1 ++ ([] ++ ((b2, .var (.agg #[.int .i64 0, .int .i64 0, .slice none 0 0]), TM) :: M))) sb |>.up uc sb) (by omega) (by omega) (by omega)) ?_
  rintro v6 U6 D6 hU6 ⟨⟨_, rfl, p6, c6, vs6, rfl, h6, e6⟩, -⟩
  refine sl_perm (M' := (b2, .var (.agg #[.int .i64 0, .int .i64 0, .slice none 0 0]), TM) :: (D6 ++ (D1 ++ M))) ?_ pm
  repeat (first | refine run_S ?_ | refine w_box (fun _ => ?_) | refine w_al (fun _ => ?_))
  exact sk_ret D6 sym rfl (.cons (.cell 0 rfl rfl rfl) (.cons (.tmp rfl) .nil)) uc sb (.inl rfl) ⟨_, rfl, ⟨_, rfl, p6, c6, vs6, rfl, h6, e6⟩, uc⟩

/-- The powers of a matrix. -/
def mpow (n : Nat) (A : Nat → Nat → Rat) : Nat → Nat → Nat → Rat
  | 0 => La.idm
  | k + 1 => La.mm n (mpow n A k) A
theorem mpow_add {n : Nat} {A : Nat → Nat → Rat} (a : Nat) : ∀ (b i j : Nat), i < n → j < n → La.mm n (mpow n A a) (mpow n A b) i j = mpow n A (a + b) i j
  | 0, i, j, hi, hj => mm_idm _ hj
  | b + 1, i, j, hi, hj => by
    show La.mm n (mpow n A a) (La.mm n (mpow n A b) A) i j = La.mm n (mpow n A (a + b)) A i j
    rw [← mm_assoc]
    exact mm_congr (fun k hk => mpow_add a b i k hi hk) (fun _ _ => rfl)
theorem mpow_one {n : Nat} {A : Nat → Nat → Rat} {i j : Nat} (hi : i < n) : mpow n A 1 i j = A i j := La.idm_mm A hi

theorem halve1 {w N : Nat} (h : N % 2 = 1) : (w + w) * (N / 2) + w = w * N := by
  have e : N = 2 * (N / 2) + 1 := by omega
  conv => rhs; rw [e, Nat.mul_add, Nat.mul_one, ← Nat.mul_assoc, Nat.mul_two]
theorem halve0 {w N : Nat} (h : N % 2 = 0) : (w + w) * (N / 2) = w * N := by
  have e : N = 2 * (N / 2) := by omega
  conv => rhs; rw [e, ← Nat.mul_assoc, Nat.mul_two]

theorem mPower_ct {n b S N : Nat} {va : Value} {A : Nat → Nat → Rat} (ha : Vm (Wq b) n n U va A) (hb : b ≤ S) (hS1 : 1 ≤ S) (hS : 1 + n * (2 * S + 2) + S ≤ 10000000000) (hsz : ∀ e, e ≤ N → ∀ i j, i < n → j < n → Szq (mpow n A e i j) S) (hN : N ≤ 1000) (hn : n ≤ 1000) :
    Ct Tryz.prog 42 [va, .int .i64 (N : Int)] G U M fun v U' D => ∃ vP, v = .tuple #[vP, .int .i64 0] ∧ Vm Vq n n U' vP (mpow n A N) ∧ D = [] := by
  have hnn : n * n ≤ 1000 * 1000 := Nat.mul_le_mul hn hn
  have ha2 := ha
  obtain ⟨_, rfl, pa, cca, as1, rfl, -⟩ := ha
  refine ct_of_st Tryz.func42 rfl rfl rfl rfl ?_
  repeat (first | refine run_S ?_ | refine w_box (fun _ => ?_) | refine w_al (fun _ => ?_))
  rename_i b2 b4
  refine sl_call rfl rfl rfl rfl rfl rfl (fun _ => msquare_ct (r := (n : Int)) (c := (n : Int)) (n := n * n) (p := pa) (cc := cca) (by omega)) ?_
  rintro v U' D hU ⟨rfl, rfl, rfl⟩
  repeat (first | refine run_S ?_ | refine w_box (fun _ => ?_) | refine w_al (fun _ => ?_))
  rw [decide_eq_true ⟨vld_of (by omega) (by omega), rfl⟩]
  repeat (first | refine run_S ?_ | refine w_box (fun _ => ?_) | refine w_al (fun _ => ?_))
  refine sl_gdec rfl rfl (fun h => absurd h (by omega)) (fun _ => ?_)
  repeat (first | refine run_S ?_ | refine w_box (fun _ => ?_) | refine w_al (fun _ => ?_))
  refine st_dec rfl (fun h => absurd h (by omega)) (fun _ => ?_)
  repeat (first | refine run_S ?_ | refine w_box (fun _ => ?_) | refine w_al (fun _ => ?_))
  refine sl_call rfl rfl rfl rfl rfl rfl (fun _ => mIdentity_ct hn) ?_
  rintro v1 U1 D1 hU1 ⟨_, rfl, ⟨_, rfl, p1, c1, s1, rfl, h1⟩, rfl⟩
  rw [List.nil_append]
  have hI : Vm Vq n n U1 (.agg #[.int .i64 (n : Int), .int .i64 (n : Int), .slice p1 (n * n) c1]) La.idm := ⟨_, rfl, p1, c1, s1, rfl, h1⟩
  repeat (first | refine run_S ?_ | refine w_box (fun _ => ?_) | refine w_al (fun _ => ?_))
  rename_i b6 b8
  refine st_loop (fun z E U' M' => ∃ (N' u w : Nat) (po pb : Option Addr) (co cb b8 : Nat), N' ≤ N ∧ u + w * N' = N ∧ Vm Vq n n U' (.agg #[.int .i64 (n : Int), .int .i64 (n : Int), .slice po (n * n) co]) (mpow n A u) ∧ (1 ≤ N' → Vm (Wq S) n n U' (.agg #[.int .i64 (n : Int), .int .i64 (n : Int), .slice pb (n * n) cb]) (mpow n A w)) ∧
      E = [(1, .int .i64 (N' : Int)), (6, .pointer (some ⟨b6, 0, none⟩)), (8, .pointer (some ⟨b8, 0, none⟩)), (4, .pointer (some ⟨b4, 0, none⟩))] ∧ ULe U1 U' ∧
      M' = (b8, .var (.agg #[.int .i64 (n : Int), .int .i64 (n : Int), .slice pb (n * n) cb]), TM) :: (b6, .var (.agg #[.int .i64 (n : Int), .int .i64 (n : Int), .slice po (n * n) co]), TM) :: (b4, .var (.agg #[.int .i64 0, .int .i64 0, .slice none 0 0]), TM) :: (b2, .var (.agg #[.int .i64 (n : Int), .int .i64 (n : Int), .slice pa (n * n) cca]), TM) :: M ∧ z = N') (n0 := N)
    (E0 := [(1, .int .i64 (N : Int)), (6, .pointer (some ⟨b6, 0, none⟩)), (8, .pointer (some ⟨b8, 0, none⟩)), (4, .pointer (some ⟨b4, 0, none⟩))]) ⟨rfl, rfl, rfl, rfl, trivial⟩
    ⟨N, 0, 1, p1, pa, c1, cca, b8, Nat.le_refl N, by omega, hI, (fun _ => (kept_m kept_w _ _ _ _ (show ULe U U1 from uc) (ha2.mono hb)).congr fun i j hi hj => (mpow_one hi).symm), rfl, uc, rfl, rfl⟩ ?_
  rintro N' E U2 M' ⟨_, u, w, po, pb, co, cb, b8, hNN, hN', hO, hB, rfl, hU2, rfl, rfl⟩
  try refine run_s ?_
  refine st_dec rfl (fun h => ?_) (fun h => ?_)
  · have hN1 : 1 ≤ N' := by omega
    have hw : w ≤ w * N' := Nat.le_mul_of_pos_right w hN1
    have hB1 := hB hN1
    try refine run_s ?_
    have e1 : (N' : Int).tmod 2 = ((N' % 2 : Nat) : Int) := by rw [Int.tmod_eq_emod_of_nonneg (by omega)]; omega
    have e2 : IntKind.i64.wrap ((N' : Int).tdiv 2) = ((N' / 2 : Nat) : Int) := by
      rw [Int.tdiv_eq_ediv_of_nonneg (by omega), wrap_in (by omega) (by simp only [kmax]; omega)]; omega
    rw [e1]
    have sB : ∀ i j, i < n → j < n → Szq (mpow n A w i j) S := hsz w (by omega)
    have half : N' / 2 * 2 + N' % 2 = N' := by omega
    refine st_eq rfl (fun h1 => ?_) (fun h1 => ?_)
    · repeat (first | refine run_S ?_ | refine w_box (fun _ => ?_) | refine w_al (fun _ => ?_))
      refine sl_call rfl rfl rfl rfl rfl rfl (fun _ => mMul_ct (b := S) (kept_m kept_w _ _ _ _ uc (hO.w (hsz u (by omega)))) (kept_m kept_w _ _ _ _ uc hB1) hS1 hS hn hn hn) ?_
      rintro v3 U3 D3 hU3 ⟨_, rfl, ⟨_, rfl, p3, c3, s3, rfl, h3⟩, rfl⟩
      rw [List.nil_append]
      have hO3 : Vm Vq n n U3 (.agg #[.int .i64 (n : Int), .int .i64 (n : Int), .slice p3 (n * n) c3]) (mpow n A (u + w)) := Vm.congr ⟨_, rfl, p3, c3, s3, rfl, h3⟩ fun i j hi hj => mpow_add u w i j hi hj
      repeat (first | refine run_S ?_ | refine w_box (fun _ => ?_) | refine w_al (fun _ => ?_))
      refine st_dec rfl (fun h2 => ?_) (fun h2 => ?_)
      · repeat (first | refine run_S ?_ | refine w_box (fun _ => ?_) | refine w_al (fun _ => ?_))
        refine sl_call rfl rfl rfl rfl rfl rfl (fun _ => mMul_ct (b := S) (kept_m kept_w _ _ _ _ uc hB1) (kept_m kept_w _ _ _ _ uc hB1) hS1 hS hn hn hn) ?_
        rintro v4 U4 D4 hU4 ⟨_, rfl, ⟨_, rfl, p4, c4, s4, rfl, h4⟩, rfl⟩
        rw [List.nil_append]
        have hB4 : Vm Vq n n U4 (.agg #[.int .i64 (n : Int), .int .i64 (n : Int), .slice p4 (n * n) c4]) (mpow n A (w + w)) := Vm.congr ⟨_, rfl, p4, c4, s4, rfl, h4⟩ fun i j hi hj => mpow_add w w i j hi hj
        have hw2 : w * 2 ≤ w * N' := Nat.mul_le_mul_left w (by omega)
        repeat (first | refine run_S ?_ | refine w_box (fun _ => ?_) | refine w_al (fun _ => ?_))
        rename_i b9
        rw [e2]
        refine sk_anti (M := (b9, .var (.agg #[.int .i64 (n : Int), .int .i64 (n : Int), .slice p4 (n * n) c4]), TM) :: (b8, .var (.agg #[.int .i64 (n : Int), .int .i64 (n : Int), .slice p4 (n * n) c4]), TM) :: (b6, .var (.agg #[.int .i64 (n : Int), .int .i64 (n : Int), .slice p3 (n * n) c3]), TM) :: (b4, .var (.agg #[.int .i64 0, .int .i64 0, .slice none 0 0]), TM) :: (b2, .var (.agg #[.int .i64 (n : Int), .int .i64 (n : Int), .slice pa (n * n) cca]), TM) :: M) (M' := (b9, .var (.agg #[.int .i64 (n : Int), .int .i64 (n : Int), .slice p4 (n * n) c4]), TM) :: (b6, .var (.agg #[.int .i64 (n : Int), .int .i64 (n : Int), .slice p3 (n * n) c3]), TM) :: (b4, .var (.agg #[.int .i64 0, .int .i64 0, .slice none 0 0]), TM) :: (b2, .var (.agg #[.int .i64 (n : Int), .int .i64 (n : Int), .slice pa (n * n) cca]), TM) :: M) (ULe.refl _) (List.Sublist.cons_cons _ (List.sublist_cons_self ..)) ?_
        exact sk_again (E' := [(1, .int .i64 ((N' / 2 : Nat) : Int)), (6, .pointer (some ⟨b6, 0, none⟩)), (8, .pointer (some ⟨b9, 0, none⟩)), (4, .pointer (some ⟨b4, 0, none⟩))]) (m := N' / 2) ⟨rfl, rfl, rfl, rfl, trivial⟩ (by omega)
          ⟨N' / 2, u + w, w + w, p3, p4, c3, c4, b9, by omega, by have := halve1 (w := w) (N := N') (by omega); omega, kept_m kept_q _ _ _ _ uc hO3, (fun _ => kept_m kept_w _ _ _ _ uc (hB4.w (hsz (w + w) (by omega)))), rfl, uc, rfl, rfl⟩
      · repeat (first | refine run_S ?_ | refine w_box (fun _ => ?_) | refine w_al (fun _ => ?_))
        repeat (first | refine run_S ?_ | refine w_box (fun _ => ?_) | refine w_al (fun _ => ?_))
        rename_i b9
        rw [e2]
        refine sk_anti (M := (b9, .var (.agg #[.int .i64 (n : Int), .int .i64 (n : Int), .slice pb (n * n) cb]), TM) :: (b8, .var (.agg #[.int .i64 (n : Int), .int .i64 (n : Int), .slice pb (n * n) cb]), TM) :: (b6, .var (.agg #[.int .i64 (n : Int), .int .i64 (n : Int), .slice p3 (n * n) c3]), TM) :: (b4, .var (.agg #[.int .i64 0, .int .i64 0, .slice none 0 0]), TM) :: (b2, .var (.agg #[.int .i64 (n : Int), .int .i64 (n : Int), .slice pa (n * n) cca]), TM) :: M) (M' := (b9, .var (.agg #[.int .i64 (n : Int), .int .i64 (n : Int), .slice pb (n * n) cb]), TM) :: (b6, .var (.agg #[.int .i64 (n : Int), .int .i64 (n : Int), .slice p3 (n * n) c3]), TM) :: (b4, .var (.agg #[.int .i64 0, .int .i64 0, .slice none 0 0]), TM) :: (b2, .var (.agg #[.int .i64 (n : Int), .int .i64 (n : Int), .slice pa (n * n) cca]), TM) :: M) (ULe.refl _) (List.Sublist.cons_cons _ (List.sublist_cons_self ..)) ?_
        exact sk_again (E' := [(1, .int .i64 ((N' / 2 : Nat) : Int)), (6, .pointer (some ⟨b6, 0, none⟩)), (8, .pointer (some ⟨b9, 0, none⟩)), (4, .pointer (some ⟨b4, 0, none⟩))]) (m := N' / 2) ⟨rfl, rfl, rfl, rfl, trivial⟩ (by omega)
          ⟨N' / 2, u + w, w, p3, pb, c3, cb, b9, by omega, by rw [show N' / 2 = 0 by omega, Nat.mul_zero]; rw [show N' = 1 by omega, Nat.mul_one] at hN'; omega, kept_m kept_q _ _ _ _ uc hO3, (fun h => absurd h (by omega)), rfl, uc, rfl, rfl⟩
    · repeat (first | refine run_S ?_ | refine w_box (fun _ => ?_) | refine w_al (fun _ => ?_))
      refine st_dec rfl (fun h2 => ?_) (fun h2 => ?_)
      · repeat (first | refine run_S ?_ | refine w_box (fun _ => ?_) | refine w_al (fun _ => ?_))
        refine sl_call rfl rfl rfl rfl rfl rfl (fun _ => mMul_ct (b := S) (kept_m kept_w _ _ _ _ uc hB1) (kept_m kept_w _ _ _ _ uc hB1) hS1 hS hn hn hn) ?_
        rintro v4 U4 D4 hU4 ⟨_, rfl, ⟨_, rfl, p4, c4, s4, rfl, h4⟩, rfl⟩
        rw [List.nil_append]
        have hB4 : Vm Vq n n U4 (.agg #[.int .i64 (n : Int), .int .i64 (n : Int), .slice p4 (n * n) c4]) (mpow n A (w + w)) := Vm.congr ⟨_, rfl, p4, c4, s4, rfl, h4⟩ fun i j hi hj => mpow_add w w i j hi hj
        have hw2 : w * 2 ≤ w * N' := Nat.mul_le_mul_left w (by omega)
        repeat (first | refine run_S ?_ | refine w_box (fun _ => ?_) | refine w_al (fun _ => ?_))
        rename_i b9
        rw [e2]
        refine sk_anti (M := (b9, .var (.agg #[.int .i64 (n : Int), .int .i64 (n : Int), .slice p4 (n * n) c4]), TM) :: (b8, .var (.agg #[.int .i64 (n : Int), .int .i64 (n : Int), .slice p4 (n * n) c4]), TM) :: (b6, .var (.agg #[.int .i64 (n : Int), .int .i64 (n : Int), .slice po (n * n) co]), TM) :: (b4, .var (.agg #[.int .i64 0, .int .i64 0, .slice none 0 0]), TM) :: (b2, .var (.agg #[.int .i64 (n : Int), .int .i64 (n : Int), .slice pa (n * n) cca]), TM) :: M) (M' := (b9, .var (.agg #[.int .i64 (n : Int), .int .i64 (n : Int), .slice p4 (n * n) c4]), TM) :: (b6, .var (.agg #[.int .i64 (n : Int), .int .i64 (n : Int), .slice po (n * n) co]), TM) :: (b4, .var (.agg #[.int .i64 0, .int .i64 0, .slice none 0 0]), TM) :: (b2, .var (.agg #[.int .i64 (n : Int), .int .i64 (n : Int), .slice pa (n * n) cca]), TM) :: M) (ULe.refl _) (List.Sublist.cons_cons _ (List.sublist_cons_self ..)) ?_
        exact sk_again (E' := [(1, .int .i64 ((N' / 2 : Nat) : Int)), (6, .pointer (some ⟨b6, 0, none⟩)), (8, .pointer (some ⟨b9, 0, none⟩)), (4, .pointer (some ⟨b4, 0, none⟩))]) (m := N' / 2) ⟨rfl, rfl, rfl, rfl, trivial⟩ (by omega)
          ⟨N' / 2, u, w + w, po, p4, co, c4, b9, by omega, by have := halve0 (w := w) (N := N') (by omega); omega, kept_m kept_q _ _ _ _ uc hO, (fun _ => kept_m kept_w _ _ _ _ uc (hB4.w (hsz (w + w) (by omega)))), rfl, uc, rfl, rfl⟩
      · exact absurd h2 (by omega)
  · have e : N' = 0 := by omega
    subst e
    rw [Nat.mul_zero, Nat.add_zero] at hN'
    subst hN'
    repeat (first | refine run_S ?_ | refine w_box (fun _ => ?_) | refine w_al (fun _ => ?_))
    exact sk_ret [] sym rfl (.cons (.cell 2 rfl rfl rfl) (.cons (.tmp rfl) .nil)) uc sb (.inl rfl) ⟨_, rfl, kept_m kept_q _ _ _ _ uc hO, rfl⟩

end Go.Proofs.YtcfgogamamdipaaGreat
