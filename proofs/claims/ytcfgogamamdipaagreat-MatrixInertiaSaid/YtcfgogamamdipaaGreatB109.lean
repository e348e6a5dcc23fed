/- Walks of the reference of layer 9: kernels. -/
import Derived.Test.YtcfgogamamdipaaGreatB92
import Derived.Test.YtcfgogamamdipaaGreatLh
import Derived.Test.YtcfgogamamdipaaGreatB106
namespace Go.Proofs.YtcfgogamamdipaaGreat
open Go.Hp
variable {G : World} {U U' : UH} {M M' : MH}

theorem Gs.tail {R : MH → Option Addr → Nat → Nat → List Value → Prop} {c : Nat} {svs : List Value} {D : MH} {F : List MH} {A : Nat → Nat → Rat} (h : Gs R c U svs (D :: F) A) : Gs R c U svs.tail F (fun k => A (k + 1)) := by
  refine ⟨by rw [List.length_tail, h.1]; rfl, fun i v E h1 h2 => ?_⟩
  rw [List.getElem?_tail] at h1
  exact h.2 (i + 1) v E h1 h2
theorem Gs.cong2 {R : MH → Option Addr → Nat → Nat → List Value → Prop} {c : Nat} {svs : List Value} {F : List MH} {A B : Nat → Nat → Rat} (h : Gs R c U svs F A) (hA : ∀ k, A k = B k) : Gs R c U svs F B := by
  rwa [show A = B from funext hA] at h
theorem sk_settleAll {K : Kont} {N : Nat} {e : Exit} {E : Env} {D M : MH} (h : ∀ U', ULe U U' → Sett U U' D → SK K N G e E U' M) : SK K N G e E U (D ++ M) :=
  ⟨fun a w ha hw => by
    obtain ⟨U', h1, h2, h3⟩ := mem_settleAll hw
    exact (h U' h1 h3).run a w ha h2⟩

theorem m9Kernel_ct {m n b : Nat} {vm : Value} {T : Nat → Nat → Rat} (hm : Vm (Wq b) m n U vm T) (hb1 : 1 ≤ b) (hg : La.gro b m ≤ 1000000000) (hm1 : m ≤ 1000) (hn1 : n ≤ 1000) :
    Ct Tryz.prog 47 [vm] G U M fun v U' D => ∃ (s : Nat) (K : Nat → Nat → Rat) (q : Nat → Nat), Vm Vq s m U' v K ∧ D = [] ∧ La.KerOf m n s T K q := by
  have hmn : m * n ≤ 1000 * 1000 := Nat.mul_le_mul hm1 hn1
  have hb : b ≤ 1000000000 := Nat.le_trans (La.gro_le (k := b) (Nat.zero_le m)) hg
  have sT : ∀ i j, i < m → j < n → Szq (T i j) b := fun i j hi hj => hm.sz hb1 hi hj
  have hm2 := hm
  obtain ⟨_, rfl, pa, cm, ms, rfl, -⟩ := hm
  refine ct_of_st Tryz.func47 rfl rfl rfl rfl ?_
  repeat (first | refine run_S ?_ | refine w_box (fun _ => ?_) | refine w_al (fun _ => ?_))
  rename_i b1 b2
  refine sl_call rfl rfl rfl rfl rfl rfl (fun _ => m9Rows_co (kept_m kept_w _ _ _ _ uc hm2) (by omega) (by omega) (by omega) (by omega)) ?_
  rintro v1 U1 D1 hU1 ⟨⟨Do, F, pg, cg, svs, rfl, rfl, hro, hgs⟩, -⟩
  refine sl_perm (M' := (b2, .var (.agg #[.int .i64 0, .int .i64 0, .slice none 0 0]), TM) :: (b1, .var (.agg #[.int .i64 (m : Int), .int .i64 (n : Int), .slice pa (m * n) cm]), TM) :: (Do ++ (F.flatten ++ M))) ?_ pm
  try refine run_s ?_
  refine st_loop (fun z E U' M' => ∃ (i : Nat) (svs : List Value) (F : List MH) (Do : MH), i ≤ m ∧ RowO TRs 1 Do pg m cg svs ∧ (∀ k v, k < i → svs[k]? = some v → Vr (n + m) U' v (La.aug n T k)) ∧ Gs rO n U' (svs.drop i) F (fun k => T (i + k)) ∧ E = [(4, .int .i64 (i : Int)), (3, .slice pg m cg), (1, .pointer (some ⟨b1, 0, none⟩)), (2, .pointer (some ⟨b2, 0, none⟩))] ∧ ULe U1 U' ∧ M' = (b2, .var (.agg #[.int .i64 0, .int .i64 0, .slice none 0 0]), TM) :: (b1, .var (.agg #[.int .i64 (m : Int), .int .i64 (n : Int), .slice pa (m * n) cm]), TM) :: (Do ++ (F.flatten ++ M)) ∧ z = m - i) (n0 := m)
    (E0 := [(4, .int .i64 ((0 : Nat) : Int)), (3, .slice pg m cg), (1, .pointer (some ⟨b1, 0, none⟩)), (2, .pointer (some ⟨b2, 0, none⟩))]) ⟨rfl, rfl, rfl, rfl, trivial⟩ ⟨0, svs, F, Do, by omega, hro, (fun k v h => absurd h (Nat.not_lt_zero k)), by simp only [Nat.zero_add, List.drop_zero]; exact hgs, rfl, uc, rfl, rfl⟩ ?_
  clear hro hgs
  rintro z E U2 M' ⟨i, svs, F, Do, hi, hro, hN, hgs, rfl, hU2, rfl, rfl⟩
  have hsl := hro.len.1
  try refine run_s ?_
  refine st_dec rfl (fun h => ?_) (fun h => ?_)
  · have him : i < m := by omega
    obtain ⟨q, c', vs, Di, hv, hF, hcc, hR, hel, hFl, -⟩ := hgs.put (i := 0) (by rw [List.length_drop]; omega)
    obtain ⟨F, rfl⟩ : ∃ F', F = Di :: F' := by
      cases F with
      | nil => simp at hF
      | cons a l => simp at hF; exact ⟨l, by rw [hF]⟩
    rw [List.getElem?_drop, Nat.add_zero] at hv
    have rA := hro.at (U := U2) (M := (b2, .var (.agg #[.int .i64 0, .int .i64 0, .slice none 0 0]), TM) :: (b1, .var (.agg #[.int .i64 (m : Int), .int .i64 (n : Int), .slice pa (m * n) cm]), TM) :: (Do ++ ((Di :: F).flatten ++ M))) sb
    try refine run_s ?_
    refine st_drawM [10, 11, 12] [0, 1, 2, 3, 4, 5, 6, 7, 8, 9, 10, 11, 12] sym (by kernel_rfl) ?_
    try refine run_s ?_
    refine sl_y (yl_index sym rfl rfl rfl rfl rfl rfl (rA.lt hv) (rA.get _ _ hv).1) rfl rfl rfl rfl ?_; refine sl_y (yl_loadR1 sym rfl rfl rfl rfl rA hv rfl) rfl rfl rfl rfl ?_
    try refine run_s ?_
    refine sl_call rfl rfl rfl rfl rfl rfl (fun _ => m9Unit_ct (n := m) (i := i) (by omega) him) ?_
    rintro v3 U3 D3 hU3 ⟨⟨pu, cu, us, rfl, hru, hel3⟩, -⟩
    try refine run_s ?_
    refine w_app (X := D3 ++ ((b2, .var (.agg #[.int .i64 0, .int .i64 0, .slice none 0 0]), TM) :: (b1, .var (.agg #[.int .i64 (m : Int), .int .i64 (n : Int), .slice pa (m * n) cm]), TM) :: (Do ++ (F.flatten ++ M)))) hR pm (hru.at sb) (El.ones hel3 fun _ _ h => one_q h) (fun p4 c4 D4 hr4 => ?_)
    try refine run_s ?_
    refine w_addr (j := i) him (hro.some (by omega)) ?_
    refine w_storeR (X := (b2, .var (.agg #[.int .i64 0, .int .i64 0, .slice none 0 0]), TM) :: (b1, .var (.agg #[.int .i64 (m : Int), .int .i64 (n : Int), .slice pa (m * n) cm]), TM) :: (D4 ++ (D3 ++ (F.flatten ++ M)))) hro pm him (fun D5 hr5 => ?_)
    refine sl_drop (M' := D5 ++ ((b2, .var (.agg #[.int .i64 0, .int .i64 0, .slice none 0 0]), TM) :: (b1, .var (.agg #[.int .i64 (m : Int), .int .i64 (n : Int), .slice pa (m * n) cm]), TM) :: (D4 ++ (F.flatten ++ M)))) sbk ?_
    refine sl_perm (M' := D4 ++ ((b2, .var (.agg #[.int .i64 0, .int .i64 0, .slice none 0 0]), TM) :: (b1, .var (.agg #[.int .i64 (m : Int), .int .i64 (n : Int), .slice pa (m * n) cm]), TM) :: (D5 ++ (F.flatten ++ M)))) ?_ pm
    try refine run_s ?_
    refine sk_settleAll fun U4 hU4 hs4 => ?_
    refine sk_again (E' := [(4, .int .i64 ((i : Int) + 1)), (3, .slice pg m cg), (1, .pointer (some ⟨b1, 0, none⟩)), (2, .pointer (some ⟨b2, 0, none⟩))]) (m := m - (i + 1)) ⟨rfl, rfl, rfl, rfl, trivial⟩ (by omega)
      ⟨i + 1, _, F, D5, by omega, hr5, (fun k v hk hv => ?_), ?_, rfl, uc, rfl, rfl⟩
    · by_cases ek : k = i
      · subst ek
        rw [List.getElem?_set_self (by omega)] at hv
        cases hv
        refine ⟨p4, c4, _, rfl, hr4.len.2.1, hr4.sett hs4, app_ok (g := La.aug n T k) hR.len.1 ?_ ?_⟩
        · exact (El.congr hel hR.len.1 fun j hj => (La.aug_l hj).symm).up kept_q uc
        · intro t x ht
          rw [La.aug_r]
          have h5 := kept_q _ _ _ _ (show ULe U3 U4 from uc) (hel3 t x ht)
          simp only at h5
          unfold La.idm
          by_cases e5 : t = k
          · rw [if_pos e5] at h5; rw [if_pos e5.symm]; exact h5
          · rw [if_neg e5] at h5; rw [if_neg (Ne.symm e5)]; exact h5
      · rw [List.getElem?_set_ne (Ne.symm ek)] at hv
        exact kept_r _ _ _ _ uc (hN k v (by omega) hv)
    · have h6 := hgs.tail
      rw [List.tail_drop] at h6
      rw [List.drop_set_of_lt (by omega)]
      refine Gs.cong2 (h6.up uc) fun k => ?_
      rw [show i + (k + 1) = i + 1 + k by omega]
  have e : i = m := by omega
  subst e
  rw [List.drop_of_length_le (by omega)] at hgs
  have hF0 : F = [] := List.eq_nil_of_length_eq_zero (by rw [← hgs.1]; rfl)
  subst hF0
  have hLs : Ls (Vr (n + i)) 1 i U2 Do (.slice pg i cg) (La.aug n T) :=
    ⟨pg, cg, svs, rfl, hro.len.2.1, hro.at (List.Sublist.refl _), fun k v hv => hN k v (by rw [← hsl]; exact (List.getElem?_eq_some_iff.1 hv).1) hv⟩
  try refine run_s ?_
  refine sl_call rfl rfl rfl rfl rfl rfl (fun _ => m9Reduce_ct (k := b) (n := n + i) (Ls.up (M' := _) hLs kept_r uc sb) (aug_sz hb1 sT) hb1 hg (by omega) (by omega)) ?_
  rintro v3 U3 D hU3 ⟨r, R, p, vR, vp, rfl, h3, h4, rfl, hE, hS, -, hsz⟩
  rw [List.nil_append]
  obtain ⟨s, hsr, hp1, hp2⟩ := La.split_pivots (n := n) hE.mono
  obtain ⟨hk, -, -, rfl⟩ := La.kern_ref hE hS hsr hp1 hp2
  obtain ⟨pR, cR, rs, rfl, hcR, rR, eR⟩ := h3
  obtain ⟨pp, cp, ps, rfl, hcp, rp, ep⟩ := h4
  try refine run_s ?_
  refine st_anti (M' := (b2, .var (.agg #[.int .i64 0, .int .i64 0, .slice none 0 0]), TM) :: (b1, .var (.agg #[.int .i64 (r : Int), .int .i64 (n : Int), .slice pa (r * n) cm]), TM) :: M) (ULe.refl _) sbk ?_
  refine st_loop (fun z E U' M' => ∃ (i : Nat) (po : Option Addr) (co : Nat) (ovs : List Value) (Do : MH), i ≤ r ∧ RowO TRs 1 Do po (i - s) co ovs ∧ El (Vr r) U' ovs (fun a j => R (s + a) (n + j)) ∧ E = [(8, .int .i64 (i : Int)), (7, .slice po (i - s) co), (5, .slice pR r cR), (6, .slice pp r cp), (1, .pointer (some ⟨b1, 0, none⟩)), (2, .pointer (some ⟨b2, 0, none⟩))] ∧ U3 = U' ∧
      M' = (b2, .var (.agg #[.int .i64 0, .int .i64 0, .slice none 0 0]), TM) :: (b1, .var (.agg #[.int .i64 (r : Int), .int .i64 (n : Int), .slice pa (r * n) cm]), TM) :: (Do ++ M) ∧ z = r - i) (n0 := r)
    (E0 := [(8, .int .i64 ((0 : Nat) : Int)), (7, .slice none 0 0), (5, .slice pR r cR), (6, .slice pp r cp), (1, .pointer (some ⟨b1, 0, none⟩)), (2, .pointer (some ⟨b2, 0, none⟩))]) ⟨rfl, rfl, rfl, rfl, rfl, rfl, trivial⟩ ⟨0, none, 0, [], [], by omega, by rw [Nat.zero_sub]; exact RowO.nil, El.nil, by rw [Nat.zero_sub], rfl, rfl, rfl⟩ ?_
  rintro z E U4 M' ⟨i, po, co, ovs, Do, hi, hrow, hel, rfl, rfl, rfl, rfl⟩
  try refine run_s ?_
  refine st_dec rfl (fun h5 => ?_) (fun h5 => ?_)
  · have hir : i < r := by omega
    have rp2 := rp.ls (U' := U3) (M := (b2, .var (.agg #[.int .i64 0, .int .i64 0, .slice none 0 0]), TM) :: (b1, .var (.agg #[.int .i64 (r : Int), .int .i64 (n : Int), .slice pa (r * n) cm]), TM) :: (Do ++ M)) (ULe.refl _)
    obtain ⟨v1, hv1⟩ := rp2.at hir
    obtain rfl := ep _ _ hv1
    try refine run_s ?_
    refine st_draw [0, 1, 2, 3, 4, 5, 6] sym (by kernel_rfl) ?_
    try refine run_s ?_
    refine sl_y (yl_index sym rfl rfl rfl rfl rfl rfl (rp2.lt hv1) (rp2.get _ _ hv1).1) rfl rfl rfl rfl ?_; refine sl_y (yl_loadR1 sym rfl rfl rfl rfl rp2 hv1 rfl) rfl rfl rfl rfl ?_
    try refine run_s ?_
    refine st_dec rfl (fun h6 => ?_) (fun h6 => ?_)
    · have hsi : s ≤ i := by
        rcases Nat.lt_or_ge i s with h7 | h7
        · have := hp1 i h7; omega
        · exact h7
      have rR2 := rR.ls (U' := U3) (M := (b2, .var (.agg #[.int .i64 0, .int .i64 0, .slice none 0 0]), TM) :: (b1, .var (.agg #[.int .i64 (r : Int), .int .i64 (n : Int), .slice pa (r * n) cm]), TM) :: (Do ++ M)) (ULe.refl _)
      obtain ⟨v2, hv2⟩ := rR2.at hir
      obtain ⟨q2, c2, us, rfl, hc2, ru, eu⟩ := eR _ _ hv2
      try refine run_s ?_
      refine st_drawM [7, 8, 9, 10] [0, 1, 2, 3, 4, 5, 6, 7, 8, 9, 10] sym (by kernel_rfl) ?_
      try refine run_s ?_
      refine sl_y (yl_index sym rfl rfl rfl rfl rfl rfl (rR2.lt hv2) (rR2.get _ _ hv2).1) rfl rfl rfl rfl ?_; refine sl_y (yl_loadR1 sym rfl rfl rfl rfl rR2 hv2 rfl) rfl rfl rfl rfl ?_
      try refine run_s ?_
      refine w_sFrom (lo := n) (n := n + r) (by omega) hc2 ?_
      have hpart := ru.drop (l := n) (by omega) hc2
      have e1 : n + r - n = r := by omega
      rw [e1] at hpart ⊢
      generalize (if c2 = n then q2 else q2.map (·.add (n * 4))) = q3 at hpart ⊢
      try refine run_s ?_
      refine w_push hrow (perm2 (D := _)).symm (fun bhr2 phr2 chr2 Dhr2 hr2 => ?_)
      refine sl_perm ?_ (perm2 (D := Dhr2))
      repeat (first | refine run_S ?_ | refine w_box (fun _ => ?_) | refine w_al (fun _ => ?_))
      have e2 : i - s + 1 = i + 1 - s := by omega
      rw [e2] at hr2 ⊢
      exact sk_again (E' := [(8, .int .i64 ((i : Int) + 1)), (7, .slice phr2 (i + 1 - s) chr2), (5, .slice pR r cR), (6, .slice pp r cp), (1, .pointer (some ⟨b1, 0, none⟩)), (2, .pointer (some ⟨b2, 0, none⟩))]) (m := r - (i + 1)) ⟨rfl, rfl, rfl, rfl, rfl, rfl, trivial⟩ (by omega)
        ⟨i + 1, phr2, chr2, _, Dhr2, by omega, hr2, snoc_ok hrow.len.1 hel ⟨q3, c2 - n, _, rfl, by omega, hpart, fun t x ht => by
          rw [List.getElem?_drop] at ht
          rw [show s + (i - s) = i by omega]
          exact eu _ _ ht⟩, rfl, rfl, rfl, rfl⟩
    · have hsi : i < s := by
        rcases Nat.lt_or_ge i s with h7 | h7
        · exact h7
        · have := hp2 i h7 hir; omega
      have e2 : i - s = i + 1 - s := by omega
      rw [e2] at hrow ⊢
      try refine run_s ?_
      exact sk_again (E' := [(8, .int .i64 ((i : Int) + 1)), (7, .slice po (i + 1 - s) co), (5, .slice pR r cR), (6, .slice pp r cp), (1, .pointer (some ⟨b1, 0, none⟩)), (2, .pointer (some ⟨b2, 0, none⟩))]) (m := r - (i + 1)) ⟨rfl, rfl, rfl, rfl, rfl, rfl, trivial⟩ (by omega)
        ⟨i + 1, po, co, ovs, Do, by omega, hrow, hel, rfl, rfl, rfl, rfl⟩
  · have e : i = r := by omega
    subst e
    have hri : (i - s) * i ≤ 1000 * 1000 := Nat.mul_le_mul (by omega) hm1
    try refine run_s ?_
    refine sl_call rfl rfl rfl rfl rfl rfl (fun _ => ct_setm (m9Of_ct (b := La.gro b i) (Ls.toWr (Ls.up (M' := _) ⟨po, co, ovs, rfl, hrow.len.2.1, hrow.at (List.Sublist.refl _), hel⟩ kept_r uc sb) fun k j hk hj => hsz (s + k) (n + j) (by omega) (by omega)) (by omega) (by omega) (by omega) (by omega))) ?_
    rintro vh8 Uh8 D hU ⟨h8, rfl⟩
    rw [List.nil_append]
    repeat (first | refine run_S ?_ | refine w_box (fun _ => ?_) | refine w_al (fun _ => ?_))
    obtain ⟨_, rfl, p8, c8, va, rfl, h9⟩ := h8
    repeat (first | refine run_S ?_ | refine w_box (fun _ => ?_) | refine w_al (fun _ => ?_))
    exact sk_ret [] sym rfl (.cons (.cell 0 rfl rfl rfl) .nil) uc sb (.inl rfl) ⟨i - s, _, _, ⟨_, rfl, p8, c8, va, rfl, h9⟩, rfl, hk⟩

end Go.Proofs.YtcfgogamamdipaaGreat
