/- Walks of modmatrix: kernels. -/
import Derived.Test.YtlnmhjkagnfnaaaM42
import Derived.Test.YtlnmhjkagnfnaaaM34
namespace Go.Proofs.Ytlnmhjkagnfnaaa
open Go.Hp
open Go.Fq (Pm Fp Prm)
variable {G : World} {U U' : UH} {M : MH}

theorem fKernel_co {P : Pm} {m n : Nat} {vm : Value} {A : Nat → Nat → Int} (hm : Vmm Vz m n U M vm A) (hp : P.1 ≤ 65521) (hm1 : m ≤ 1000) (hn1 : n ≤ 1000) :
    Ct Try.prog 18 [.int .i64 (P.1 : Int), vm] G U M fun v U' D => ∃ (s : Nat) (R : Nat → Nat → Fp P) (q : Nat → Nat) (vR : Value), v = .tuple #[vR, .int .i64 0] ∧ Vmoz (Vf P) s m U' D vR R ∧ ULe U U' ∧ La.KerOf m n s (Ofm P A) R q ∧
      ∃ r R1 p1, EchP m n r (Ofm P A) R1 p1 ∧ s = m - r := by
  have hp2 := P.2.two
  have hmn : m * n ≤ 1000 * 1000 := Nat.mul_le_mul hm1 hn1
  have hmm : m * m ≤ 1000 * 1000 := Nat.mul_le_mul hm1 hm1
  have hm2 := hm
  obtain ⟨_, rfl, pa, cm, ms, rfl, -⟩ := hm
  refine ct_of_st Try.func18 rfl rfl rfl rfl ?_
  repeat (first | refine run_S ?_ | refine w_box (fun _ => ?_) | refine w_al (fun _ => ?_))
  rename_i b1 b2
  refine sl_call rfl rfl rfl rfl rfl rfl (fun _ => fcheck_ct (z := (P.1 : Int)) (r := (m : Int)) (c := (n : Int)) (n := m * n) (p := pa) (cc := cm) (by omega)) ?_
  rintro v U' D hU ⟨rfl, rfl, rfl⟩
  repeat (first | refine run_S ?_ | refine w_box (fun _ => ?_) | refine w_al (fun _ => ?_))
  rw [errF_ok hp (by omega) (by omega)]
  refine st_ne rfl (fun h => absurd rfl h) (fun _ => ?_)
  repeat (first | refine run_S ?_ | refine w_box (fun _ => ?_) | refine w_al (fun _ => ?_))
  refine sl_call rfl rfl rfl rfl rfl rfl (fun _ => fload_co (P := P) (hm2.up uc sb) (by omega) (by omega) (by omega) (by omega)) ?_
  rintro v1 U1 D1 hU1 ⟨hg, -⟩
  refine sl_perm ?_ (perm2 (D := D1))
  obtain ⟨Do, F, pg, cg, svs, rfl, rfl, hro, hgs⟩ := hg
  have hcg := hro.len
  repeat (first | refine run_S ?_ | refine w_box (fun _ => ?_) | refine w_al (fun _ => ?_))
  refine st_perm (M' := (b2, .var (.agg #[.int .i64 0, .int .i64 0, .slice none 0 0]), TF) :: (b1, .var (.agg #[.int .i64 (m : Int), .int .i64 (n : Int), .slice pa (m * n) cm]), TF) :: (Do ++ (F.flatten ++ M))) pf ?_
  -- the unit matrix beside
  have hmix : svs.length = F.length ∧ ∀ t v D, svs[t]? = some v → F[t]? = some D → (t < 0 → ∃ q c' vs, v = .slice q (n + m) c' ∧ n + m ≤ c' ∧ RowO TInt 1 D q (n + m) c' vs ∧ El (Vf P) U1 vs (La.aug n (Ofm P A) t)) ∧ (0 ≤ t → ∃ q c' vs, v = .slice q n c' ∧ n ≤ c' ∧ RowO TInt 1 D q n c' vs ∧ El (Vf P) U1 vs (Ofm P A t)) :=
    ⟨hgs.1, fun t v D h1 h2 => ⟨fun h => absurd h (Nat.not_lt_zero t), fun _ => hgs.2 t v D h1 h2⟩⟩
  try refine st_anti (M' := (b2, .var (.agg #[.int .i64 0, .int .i64 0, .slice none 0 0]), TF) :: (b1, .var (.agg #[.int .i64 (m : Int), .int .i64 (n : Int), .slice pa (m * n) cm]), TF) :: (Do ++ (F.flatten ++ M))) (ULe.refl _) sbk ?_
  refine st_loop (fun z E U' M' => ∃ (i : Nat) (svs : List Value) (Do : MH) (F : List MH), i ≤ m ∧ RowO TIs 1 Do pg m cg svs ∧ (svs.length = F.length ∧ ∀ t v D, svs[t]? = some v → F[t]? = some D → (t < i → ∃ q c' vs, v = .slice q (n + m) c' ∧ n + m ≤ c' ∧ RowO TInt 1 D q (n + m) c' vs ∧ El (Vf P) U' vs (La.aug n (Ofm P A) t)) ∧ (i ≤ t → ∃ q c' vs, v = .slice q n c' ∧ n ≤ c' ∧ RowO TInt 1 D q n c' vs ∧ El (Vf P) U' vs (Ofm P A t))) ∧ E = [(26, .int .i64 (i : Int)), (25, .int .i64 (m : Int)), (7, .slice pg m cg), (3, .pointer (some ⟨b1, 0, none⟩)), (4, .pointer (some ⟨b2, 0, none⟩)), (0, .int .i64 (P.1 : Int))] ∧ ULe U1 U' ∧ M' = (b2, .var (.agg #[.int .i64 0, .int .i64 0, .slice none 0 0]), TF) :: (b1, .var (.agg #[.int .i64 (m : Int), .int .i64 (n : Int), .slice pa (m * n) cm]), TF) :: (Do ++ (F.flatten ++ M)) ∧ z = m - i) (n0 := m - 0) (E0 := [(26, .int .i64 ((0 : Nat) : Int)), (25, .int .i64 (m : Int)), (7, .slice pg m cg), (3, .pointer (some ⟨b1, 0, none⟩)), (4, .pointer (some ⟨b2, 0, none⟩)), (0, .int .i64 (P.1 : Int))]) ⟨rfl, rfl, rfl, rfl, rfl, rfl, trivial⟩ ⟨0, svs, Do, F, by omega, hro, hmix, rfl, uc, rfl, rfl⟩ ?_
  clear hro hgs hmix
  rintro z E U2 M' ⟨i, svs, Do, F, hi, hro, hmix, rfl, hU2, rfl, rfl⟩
  try refine run_s ?_
  refine st_dec rfl (fun h => ?_) (fun h => ?_)
  · have him : i < m := by omega
    have hsl := hro.len.1
    have hFl : i < F.length := by rw [← hmix.1]; omega
    obtain ⟨v3, hv3⟩ : ∃ v, svs[i]? = some v := ⟨_, List.getElem?_eq_getElem (by omega)⟩
    obtain ⟨D3, hF3⟩ : ∃ D, F[i]? = some D := ⟨_, List.getElem?_eq_getElem hFl⟩
    obtain ⟨q3, c3, vs3, rfl, hc3, hr3, el3⟩ := (hmix.2 i v3 D3 hv3 hF3).2 (Nat.le_refl i)
    try refine run_s ?_
    refine sl_make (m := m) (n := m) sym rfl rfl rfl rfl rfl rfl rfl rfl rfl (Nat.le_refl m) (by omega) (by omega) rfl rfl rfl rfl (fun b3 => ?_)
    have hrow2 := rowO_make (e := TInt) (s := 1) (b := b3) (n := m) (z := .int .i64 0) rfl (by omega)
    try refine run_s ?_
    refine w_addr (j := i) him rfl ?_
    refine w_storeR (v := .int .i64 1) (X := (b2, .var (.agg #[.int .i64 0, .int .i64 0, .slice none 0 0]), TF) :: (b1, .var (.agg #[.int .i64 (m : Int), .int .i64 (n : Int), .slice pa (m * n) cm]), TF) :: (Do ++ (F.flatten ++ M))) hrow2 (List.Perm.refl _) him (fun D4 hr4 => ?_)
    have e4 : El (Vf P) U2 ((List.replicate m (Value.int .i64 0)).set i (.int .i64 1)) (fun j => (La.idm i j : Fp P)) := set_ok (fun t x ht hne => by
      rw [List.getElem?_replicate] at ht
      split at ht
      rotate_left
      · cases ht
      cases ht
      show _ = Value.int .i64 (((La.idm i t : Fp P).v : Nat) : Int)
      rw [show (La.idm i t : Fp P) = 0 from if_neg (Ne.symm hne), Fq.v_zero]; rfl) (by
      show _ = Value.int .i64 (((La.idm i i : Fp P).v : Nat) : Int)
      rw [show (La.idm i i : Fp P) = 1 from if_pos rfl, Fq.v_one]; rfl)
    refine sl_perm (M' := D3 ++ (D4 ++ ((b2, .var (.agg #[.int .i64 0, .int .i64 0, .slice none 0 0]), TF) :: (b1, .var (.agg #[.int .i64 (m : Int), .int .i64 (n : Int), .slice pa (m * n) cm]), TF) :: (Do ++ (((F.take i).flatten ++ (F.drop (i + 1)).flatten) ++ M))))) ?_ (by simpa only [List.append_assoc, List.cons_append] using pick_pz (B := D4 ++ ((b2, .var (.agg #[.int .i64 0, .int .i64 0, .slice none 0 0]), TF) :: (b1, .var (.agg #[.int .i64 (m : Int), .int .i64 (n : Int), .slice pa (m * n) cm]), TF) :: Do)) (T := M) (pickF hF3))
    have rA := hro.at (U := U2) (M := D3 ++ (D4 ++ ((b2, .var (.agg #[.int .i64 0, .int .i64 0, .slice none 0 0]), TF) :: (b1, .var (.agg #[.int .i64 (m : Int), .int .i64 (n : Int), .slice pa (m * n) cm]), TF) :: (Do ++ (((F.take i).flatten ++ (F.drop (i + 1)).flatten) ++ M))))) sb
    have rU := hr4.at (U := U2) (M := D3 ++ (D4 ++ ((b2, .var (.agg #[.int .i64 0, .int .i64 0, .slice none 0 0]), TF) :: (b1, .var (.agg #[.int .i64 (m : Int), .int .i64 (n : Int), .slice pa (m * n) cm]), TF) :: (Do ++ (((F.take i).flatten ++ (F.drop (i + 1)).flatten) ++ M))))) sb
    try refine run_s ?_
    refine sl_y (yl_index sym rfl rfl rfl rfl rfl rfl (rA.lt hv3) (rA.get _ _ hv3).1) rfl rfl rfl rfl ?_; refine sl_y (yl_loadR1 sym rfl rfl rfl rfl rA hv3 rfl) rfl rfl rfl rfl ?_
    try refine run_s ?_
    refine w_app (X := D4 ++ ((b2, .var (.agg #[.int .i64 0, .int .i64 0, .slice none 0 0]), TF) :: (b1, .var (.agg #[.int .i64 (m : Int), .int .i64 (n : Int), .slice pa (m * n) cm]), TF) :: (Do ++ (((F.take i).flatten ++ (F.drop (i + 1)).flatten) ++ M)))) hr3 (List.Perm.refl _) rU (El.ones e4 fun _ _ h => one_f h) (fun p5 c5 D5 hr5 => ?_)
    refine w_addr (j := i) him (rA.get _ _ hv3).1 ?_
    refine w_storeR (v := .slice p5 (n + m) c5) (X := D5 ++ (D4 ++ ((b2, .var (.agg #[.int .i64 0, .int .i64 0, .slice none 0 0]), TF) :: (b1, .var (.agg #[.int .i64 (m : Int), .int .i64 (n : Int), .slice pa (m * n) cm]), TF) :: (((F.take i).flatten ++ (F.drop (i + 1)).flatten) ++ M)))) hro pf him (fun D6 hr6 => ?_)
    refine sl_perm (M' := D4 ++ ((b2, .var (.agg #[.int .i64 0, .int .i64 0, .slice none 0 0]), TF) :: (b1, .var (.agg #[.int .i64 (m : Int), .int .i64 (n : Int), .slice pa (m * n) cm]), TF) :: (D6 ++ ((D5 ++ ((F.take i).flatten ++ (F.drop (i + 1)).flatten)) ++ M)))) ?_ pf
    refine sl_drop (List.sublist_append_right D4 _) ?_
    refine sl_perm (M' := (b2, .var (.agg #[.int .i64 0, .int .i64 0, .slice none 0 0]), TF) :: (b1, .var (.agg #[.int .i64 (m : Int), .int .i64 (n : Int), .slice pa (m * n) cm]), TF) :: (D6 ++ ((F.set i D5).flatten ++ M))) ?_ (((((putF hFl).symm.append_right M).append_left D6).cons _).cons _)
    try refine run_s ?_
    have hmix2 : (svs.set i (.slice p5 (n + m) c5)).length = (F.set i D5).length ∧ ∀ t v D, (svs.set i (.slice p5 (n + m) c5))[t]? = some v → (F.set i D5)[t]? = some D → (t < i + 1 → ∃ q c' vs, v = .slice q (n + m) c' ∧ n + m ≤ c' ∧ RowO TInt 1 D q (n + m) c' vs ∧ El (Vf P) U2 vs (La.aug n (Ofm P A) t)) ∧ (i + 1 ≤ t → ∃ q c' vs, v = .slice q n c' ∧ n ≤ c' ∧ RowO TInt 1 D q n c' vs ∧ El (Vf P) U2 vs (Ofm P A t)) := by
      refine ⟨by rw [List.length_set, List.length_set]; exact hmix.1, fun t v D h1 h2 => ?_⟩
      by_cases e : t = i
      · subst e
        rw [List.getElem?_set_self (by omega)] at h1
        rw [List.getElem?_set_self hFl] at h2
        cases h1
        cases h2
        refine ⟨fun _ => ⟨p5, c5, _, rfl, hr5.len.2.1, hr5, app_ok hr3.len.1 (el3.congr hr3.len.1 fun j hj => (La.aug_l hj).symm) fun k x hk => ?_⟩, fun h => absurd h (by omega)⟩
        rw [La.aug_r]
        exact e4 k x hk
      · rw [List.getElem?_set_ne (Ne.symm e)] at h1 h2
        obtain ⟨k1, k2⟩ := hmix.2 t v D h1 h2
        exact ⟨fun h => k1 (by omega), fun h => k2 (by omega)⟩
    exact sk_again (E' := [(26, .int .i64 ((i : Int) + 1)), (25, .int .i64 (m : Int)), (7, .slice pg m cg), (3, .pointer (some ⟨b1, 0, none⟩)), (4, .pointer (some ⟨b2, 0, none⟩)), (0, .int .i64 (P.1 : Int))]) (m := m - (i + 1)) ⟨rfl, rfl, rfl, rfl, rfl, rfl, trivial⟩ (by omega) ⟨i + 1, svs.set i (.slice p5 (n + m) c5), D6, F.set i D5, by omega, hr6, hmix2, rfl, uc, rfl, rfl⟩
  · obtain rfl : m = i := by omega
    have hgow : Gow P m (n + m) U2 (Do ++ F.flatten) (.slice pg m cg) (La.aug n (Ofm P A)) := ⟨Do, F, pg, cg, svs, rfl, rfl, hcg.2.1, hro.w, hmix.1, fun t v D h1 h2 => by
      have ht : t < m := by rw [← hro.len.1]; exact (List.getElem?_eq_some_iff.1 h1).1
      obtain ⟨q, c', vs, k1, k2, k3, k4⟩ := (hmix.2 t v D h1 h2).1 ht
      exact ⟨q, c', vs, k1, k2, k3.w, k4⟩⟩
    clear hro hmix
    try refine run_s ?_
    refine sl_callC rfl rfl rfl rfl rfl rfl ((fReduce_cx (X := (b2, .var (.agg #[.int .i64 0, .int .i64 0, .slice none 0 0]), TF) :: (b1, .var (.agg #[.int .i64 (m : Int), .int .i64 (n : Int), .slice pa (m * n) cm]), TF) :: M) (cl := n) hgow (by omega) (by omega) (by omega) (by omega)).perm pf) ?_
    rintro v2 U3 M2 hU3 ⟨-, r, R, p, vp, d, D', Dp, rfl, rfl, hg2, ⟨pp, cp, pvs, rfl, -, -⟩, hred⟩
    refine sl_perm (M' := Dp ++ ((b2, .var (.agg #[.int .i64 0, .int .i64 0, .slice none 0 0]), TF) :: (b1, .var (.agg #[.int .i64 (m : Int), .int .i64 (n : Int), .slice pa (m * n) cm]), TF) :: (D' ++ M))) ?_ pf
    refine sl_drop (List.sublist_append_right Dp _) ?_
    have hrm := hred.le
    obtain ⟨Do, F, pg2, cg2, svs, rfl, hpe, hcg2, hro, hgs⟩ := hg2
    obtain ⟨rfl, -, rfl⟩ := Value.slice.inj hpe
    try refine run_s ?_
    refine w_sFrom (lo := r) hrm hcg2 ?_
    have hpart := hro.part (lo := r) (hi := m) hrm (Nat.le_refl m) hcg2
    obtain ⟨pk, hpk⟩ : ∃ pk, pk = if cg = r then pg else pg.map (·.add (r * 1)) := ⟨_, rfl⟩
    rw [← hpk] at hpart ⊢
    obtain ⟨svk, hsvk⟩ : ∃ svk, svk = (svs.drop r).take (m - r) := ⟨_, rfl⟩
    rw [← hsvk] at hpart
    have hsl := hro.len
    have hmix : svk.length = (F.drop r).length ∧ ∀ t v D, svk[t]? = some v → (F.drop r)[t]? = some D → (t < 0 → ∃ q c' vs, v = .slice q m c' ∧ m ≤ c' ∧ RowW TInt 1 D q m vs ∧ El (Vf P) U3 vs (fun j => R (r + t) (n + j))) ∧ (0 ≤ t → ∃ q c' vs, v = .slice q (n + m) c' ∧ n + m ≤ c' ∧ RowW TInt 1 D q (n + m) vs ∧ El (Vf P) U3 vs (R (r + t))) := by
      refine ⟨by rw [hsvk, List.length_take, List.length_drop, List.length_drop, ← hgs.1]; omega, fun t v D h1 h2 => ⟨fun h => absurd h (Nat.not_lt_zero t), fun _ => ?_⟩⟩
      rw [hsvk, List.getElem?_take] at h1
      split at h1
      · rw [List.getElem?_drop] at h1 h2
        exact hgs.2 (r + t) v D h1 h2
      · cases h1
    have hFd : (F.drop r).flatten.Sublist F.flatten := by
      conv => rhs; rw [← List.take_append_drop r F, List.flatten_append]
      exact List.sublist_append_right _ _
    refine sl_drop (M' := (b2, .var (.agg #[.int .i64 0, .int .i64 0, .slice none 0 0]), TF) :: (b1, .var (.agg #[.int .i64 (m : Int), .int .i64 (n : Int), .slice pa (m * n) cm]), TF) :: (Do ++ ((F.drop r).flatten ++ M))) (List.Sublist.cons_cons _ (List.Sublist.cons_cons _ (by rw [List.append_assoc]; exact List.Sublist.append (List.Sublist.refl _) (List.Sublist.append hFd (List.Sublist.refl _))))) ?_
    clear hro hgs hsvk hpk
    generalize F.drop r = Fk at hmix
    try refine run_s ?_
    try refine st_anti (M' := (b2, .var (.agg #[.int .i64 0, .int .i64 0, .slice none 0 0]), TF) :: (b1, .var (.agg #[.int .i64 (m : Int), .int .i64 (n : Int), .slice pa (m * n) cm]), TF) :: (Do ++ (Fk.flatten ++ M))) (ULe.refl _) sbk ?_
    refine st_loop (fun z E U' M' => ∃ (i : Nat) (svk : List Value) (Do : MH), i ≤ m - r ∧ RowW TIs 1 Do pk (m - r) svk ∧ (svk.length = Fk.length ∧ ∀ t v D, svk[t]? = some v → Fk[t]? = some D → (t < i → ∃ q c' vs, v = .slice q m c' ∧ m ≤ c' ∧ RowW TInt 1 D q m vs ∧ El (Vf P) U' vs (fun j => R (r + t) (n + j))) ∧ (i ≤ t → ∃ q c' vs, v = .slice q (n + m) c' ∧ n + m ≤ c' ∧ RowW TInt 1 D q (n + m) vs ∧ El (Vf P) U' vs (R (r + t)))) ∧ E = [(59, .int .i64 (i : Int)), (58, .int .i64 ((m - r : Nat) : Int)), (12, .slice pk (m - r) (cg - r)), (3, .pointer (some ⟨b1, 0, none⟩)), (4, .pointer (some ⟨b2, 0, none⟩)), (0, .int .i64 (P.1 : Int))] ∧ ULe U3 U' ∧ M' = (b2, .var (.agg #[.int .i64 0, .int .i64 0, .slice none 0 0]), TF) :: (b1, .var (.agg #[.int .i64 (m : Int), .int .i64 (n : Int), .slice pa (m * n) cm]), TF) :: (Do ++ (Fk.flatten ++ M)) ∧ z = m - r - i) (n0 := m - r - 0) (E0 := [(59, .int .i64 ((0 : Nat) : Int)), (58, .int .i64 ((m - r : Nat) : Int)), (12, .slice pk (m - r) (cg - r)), (3, .pointer (some ⟨b1, 0, none⟩)), (4, .pointer (some ⟨b2, 0, none⟩)), (0, .int .i64 (P.1 : Int))]) ⟨rfl, rfl, rfl, rfl, rfl, rfl, trivial⟩ ⟨0, svk, Do, by omega, hpart, hmix, rfl, uc, rfl, rfl⟩ ?_
    clear hpart hmix
    rintro z E U4 M' ⟨i, svk, Do, hi, hro, hmix, rfl, hU4, rfl, rfl⟩
    try refine run_s ?_
    refine st_dec rfl (fun h => ?_) (fun h => ?_)
    · have him : i < m - r := by omega
      have rA := hro.at (U := U4) (M := (b2, .var (.agg #[.int .i64 0, .int .i64 0, .slice none 0 0]), TF) :: (b1, .var (.agg #[.int .i64 (m : Int), .int .i64 (n : Int), .slice pa (m * n) cm]), TF) :: (Do ++ (Fk.flatten ++ M))) sb
      obtain ⟨v3, hv3⟩ := rA.at him
      have hFl : i < Fk.length := by rw [← hmix.1, hro.len]; exact him
      obtain ⟨D3, hF3⟩ : ∃ D, Fk[i]? = some D := ⟨_, List.getElem?_eq_getElem hFl⟩
      obtain ⟨q3, c3, vs3, rfl, hc3, hr3, el3⟩ := (hmix.2 i v3 D3 hv3 hF3).2 (Nat.le_refl i)
      try refine run_s ?_
      refine st_drawM [8, 9, 10] [0, 1, 2, 3, 4, 5, 6, 7, 8, 9, 10] sym (by kernel_rfl) ?_
      try refine run_s ?_
      refine sl_y (yl_index sym rfl rfl rfl rfl rfl rfl (rA.lt hv3) (rA.get _ _ hv3).1) rfl rfl rfl rfl ?_; refine sl_y (yl_loadR1 sym rfl rfl rfl rfl rA hv3 rfl) rfl rfl rfl rfl ?_
      try refine run_s ?_
      refine w_sFrom (lo := n) (by omega) hc3 ?_
      have hp3 := hr3.part (lo := n) (hi := n + m) (by omega) (Nat.le_refl _) hc3
      obtain ⟨q4, hq4⟩ : ∃ q4, q4 = if c3 = n then q3 else q3.map (·.add (n * 1)) := ⟨_, rfl⟩
      rw [← hq4, show n + m - n = m by omega] at hp3
      rw [← hq4, show n + m - n = m by omega]
      have el4 : El (Vf P) U4 ((vs3.drop n).take m) (fun j => R (r + i) (n + j)) := fun k x hk => by
        rw [List.getElem?_take] at hk
        split at hk
        · rw [List.getElem?_drop] at hk
          exact el3 _ _ hk
        · cases hk
      refine w_addr (j := i) him (rA.get _ _ hv3).1 ?_
      refine w_storeW (v := .slice q4 m (c3 - n)) (X := (b2, .var (.agg #[.int .i64 0, .int .i64 0, .slice none 0 0]), TF) :: (b1, .var (.agg #[.int .i64 (m : Int), .int .i64 (n : Int), .slice pa (m * n) cm]), TF) :: (Fk.flatten ++ M)) hro pf him (fun D6 hr6 => ?_)
      refine sl_perm (M' := (b2, .var (.agg #[.int .i64 0, .int .i64 0, .slice none 0 0]), TF) :: (b1, .var (.agg #[.int .i64 (m : Int), .int .i64 (n : Int), .slice pa (m * n) cm]), TF) :: (D6 ++ (Fk.flatten ++ M))) ?_ pf
      try refine run_s ?_
      have hmix2 : (svk.set i (.slice q4 m (c3 - n))).length = Fk.length ∧ ∀ t v D, (svk.set i (.slice q4 m (c3 - n)))[t]? = some v → Fk[t]? = some D → (t < i + 1 → ∃ q c' vs, v = .slice q m c' ∧ m ≤ c' ∧ RowW TInt 1 D q m vs ∧ El (Vf P) U4 vs (fun j => R (r + t) (n + j))) ∧ (i + 1 ≤ t → ∃ q c' vs, v = .slice q (n + m) c' ∧ n + m ≤ c' ∧ RowW TInt 1 D q (n + m) vs ∧ El (Vf P) U4 vs (R (r + t))) := by
        refine ⟨by rw [List.length_set]; exact hmix.1, fun t v D h1 h2 => ?_⟩
        by_cases e : t = i
        · subst e
          rw [List.getElem?_set_self (by rw [hro.len]; exact him)] at h1
          rw [hF3] at h2
          cases h1
          cases h2
          exact ⟨fun _ => ⟨q4, c3 - n, _, rfl, by omega, hp3, el4⟩, fun h => absurd h (by omega)⟩
        · rw [List.getElem?_set_ne (Ne.symm e)] at h1
          obtain ⟨k1, k2⟩ := hmix.2 t v D h1 h2
          exact ⟨fun h => k1 (by omega), fun h => k2 (by omega)⟩
      exact sk_again (E' := [(59, .int .i64 ((i : Int) + 1)), (58, .int .i64 ((m - r : Nat) : Int)), (12, .slice pk (m - r) (cg - r)), (3, .pointer (some ⟨b1, 0, none⟩)), (4, .pointer (some ⟨b2, 0, none⟩)), (0, .int .i64 (P.1 : Int))]) (m := m - r - (i + 1)) ⟨rfl, rfl, rfl, rfl, rfl, rfl, trivial⟩ (by omega) ⟨i + 1, _, D6, by omega, hr6, hmix2, rfl, uc, rfl, rfl⟩
    · obtain rfl : m - r = i := by omega
      have hgow2 : Gow P (m - r) m U4 (Do ++ Fk.flatten) (.slice pk (m - r) (cg - r)) (fun i j => R (r + i) (n + j)) := ⟨Do, Fk, pk, cg - r, svk, rfl, rfl, by omega, hro, hmix.1, fun t v D h1 h2 => by
        have ht : t < m - r := by rw [← hro.len]; exact (List.getElem?_eq_some_iff.1 h1).1
        exact (hmix.2 t v D h1 h2).1 ht⟩
      clear hro hmix
      try refine run_s ?_
      refine sl_callC rfl rfl rfl rfl rfl rfl ((fReduce_cx (X := (b2, .var (.agg #[.int .i64 0, .int .i64 0, .slice none 0 0]), TF) :: (b1, .var (.agg #[.int .i64 (m : Int), .int .i64 (n : Int), .slice pa (m * n) cm]), TF) :: M) (cl := m) hgow2 (by omega) (by omega) (by omega) (by omega)).perm pf) ?_
      rintro v5 U5 M5 hU5 ⟨-, r2, K2, p2, vp2, d2, D5, Dp5, rfl, rfl, hg5, -, hred2⟩
      refine sl_perm (M' := Dp5 ++ ((b2, .var (.agg #[.int .i64 0, .int .i64 0, .slice none 0 0]), TF) :: (b1, .var (.agg #[.int .i64 (m : Int), .int .i64 (n : Int), .slice pa (m * n) cm]), TF) :: (D5 ++ M))) ?_ pf
      refine sl_drop (List.sublist_append_right Dp5 _) ?_
      obtain ⟨hker, hr2⟩ := La.red_kerof hred hred2.echp.ech hred2.echp.same
      obtain ⟨hl1, hl2⟩ := La.red_left hred
      have hg6 := hg5.lg (M := (b2, .var (.agg #[.int .i64 0, .int .i64 0, .slice none 0 0]), TF) :: (b1, .var (.agg #[.int .i64 (m : Int), .int .i64 (n : Int), .slice pa (m * n) cm]), TF) :: (D5 ++ M)) sb
      have hsm : (m - r) * m ≤ 1000 * 1000 := Nat.mul_le_mul (by omega) hm1
      subst hr2
      try refine run_s ?_
      refine sl_call rfl rfl rfl rfl rfl rfl (fun _ => fstore_ct (hg6.up uc sb) (by omega) (by omega) (by omega)) ?_
      rintro v6 U6 D6 hU6 ⟨⟨_, rfl, p6, c6, vs6, rfl, h6, e6⟩, -⟩
      refine sl_perm ?_ (perm2 (D := D6))
      repeat (first | refine run_S ?_ | refine w_box (fun _ => ?_) | refine w_al (fun _ => ?_))
      exact sk_ret D6 sym rfl (.cons (.cell 0 rfl rfl rfl) (.cons (.tmp rfl) .nil)) uc sb (.inl rfl) ⟨m - r, K2, p2, _, rfl, ⟨_, rfl, p6, c6, vs6, rfl, h6, e6⟩, uc, hker, r, R, p, ⟨hl1, hl2, hrm⟩, rfl⟩

theorem fKernel_ct {P : Pm} {m n : Nat} {vm : Value} {A : Nat → Nat → Int} (hm : Vmm Vz m n U M vm A) (hp : P.1 ≤ 65521) (hm1 : m ≤ 1000) (hn1 : n ≤ 1000) :
    Ct Try.prog 18 [.int .i64 (P.1 : Int), vm] G U M fun v U' D => ∃ (s : Nat) (R : Nat → Nat → Fp P) (q : Nat → Nat) (vR : Value), v = .tuple #[vR, .int .i64 0] ∧ Vmz (Vf P) s m U' vR R ∧ D = [] ∧ La.KerOf m n s (Ofm P A) R q ∧
      ∃ r R1 p1, EchP m n r (Ofm P A) R1 p1 ∧ s = m - r :=
  (fKernel_co hm hp hm1 hn1).settle.mono fun _ _ _ _ ⟨h1, _, _, ⟨s, R, q, vR, h2, ⟨a, h3, h9⟩, _, h5⟩, _, h7, h8⟩ =>
    ⟨s, R, q, vR, h2, ⟨a, h3, h9.sett KeptC.out h7 h8⟩, h1, h5⟩
end Go.Proofs.Ytlnmhjkagnfnaaa
