/- Walks of matrix: sums, differences, multiples. -/
import Derived.Test.YtcfgogamamdipaaGreatHk
import Derived.Test.YtcfgogamamdipaaGreatM23
namespace Go.Proofs.YtcfgogamamdipaaGreat
open Go.Hp
variable {G : World} {U U' : UH} {M M' : MH}

theorem each_co {c r n b : Nat} {cs : List Value} {op : Rat → Rat → Rat} {va vb : Value} {A B : Nat → Nat → Rat} (ha : Vm (Wq b) r n U va A) (hv : Vm (Wq b) r n U vb B)
    (hdo : ∀ (U' : UH) (M' : MH) (x y : QV) (p q : Rat), ULe U U' → M.Sublist M' → x.rep U' [] p → x.le b → y.rep U' [] q → y.le b → Ct Tryz.prog c ([x.v, y.v] ++ cs) G U' M' fun v U'' D => ∃ z : QV, v = z.v ∧ z.own D (op p q) ∧ ULe U' U'') (hr : r ≤ 1000) (hn : n ≤ 1000) :
    Ct Tryz.prog 101 [va, vb, .func (.func c) #[] cs.toArray] G U M fun v U' D => ∃ vC, v = .tuple #[vC, .int .i64 0] ∧ Vmo r n U' D vC (fun i j => op (A i j) (B i j)) ∧ ULe U U' := by
  have hrn : r * n ≤ 1000 * 1000 := Nat.mul_le_mul hr hn
  obtain ⟨_, rfl, pa, cca, as1, rfl, hca, ra, ea⟩ := ha
  obtain ⟨_, rfl, pb, ccb, bs1, rfl, hcb, rb, eb⟩ := hv
  refine ct_of_st Tryz.func101 rfl rfl rfl rfl ?_
  repeat (first | refine run_S ?_ | refine w_box (fun _ => ?_) | refine w_al (fun _ => ?_))
  rename_i b3 b4 b6
  refine sl_call rfl rfl rfl rfl rfl rfl (fun _ => mValid_ct (r := (r : Int)) (c := (n : Int)) (n := r * n) (p := pa) (cc := cca) (by omega)) ?_
  rintro v U' D hU ⟨rfl, rfl, rfl⟩
  repeat (first | refine run_S ?_ | refine w_box (fun _ => ?_) | refine w_al (fun _ => ?_))
  rw [decide_eq_true (vld_of (by omega) (by omega))]
  repeat (first | refine run_S ?_ | refine w_box (fun _ => ?_) | refine w_al (fun _ => ?_))
  refine sl_call rfl rfl rfl rfl rfl rfl (fun _ => mValid_ct (r := (r : Int)) (c := (n : Int)) (n := r * n) (p := pb) (cc := ccb) (by omega)) ?_
  rintro v U' D hU ⟨rfl, rfl, rfl⟩
  repeat (first | refine run_S ?_ | refine w_box (fun _ => ?_) | refine w_al (fun _ => ?_))
  rw [decide_eq_true (vld_of (by omega) (by omega))]
  repeat (first | refine run_S ?_ | refine w_box (fun _ => ?_) | refine w_al (fun _ => ?_))
  refine sl_gdec rfl rfl (fun h => absurd rfl h) (fun _ => ?_)
  repeat (first | refine run_S ?_ | refine w_box (fun _ => ?_) | refine w_al (fun _ => ?_))
  refine st_ne rfl (fun h => absurd rfl h) (fun _ => ?_)
  repeat (first | refine run_S ?_ | refine w_box (fun _ => ?_) | refine w_al (fun _ => ?_))
  refine st_drawM [10] [0, 1, 2, 3, 4, 5, 6, 7, 8, 9, 10] sym (by kernel_rfl) ?_
  try refine run_s ?_
  refine sl_make (m := r * n) (n := r * n) sym rfl rfl rfl rfl rfl rfl rfl rfl rfl (Nat.le_refl _) (by omega) (by omega) rfl rfl rfl rfl (fun bl => ?_)
  have hrow := rowO_make (e := TR) (s := 4) (b := bl) (n := r * n) (z := (.agg #[.bool false, .slice none 0 0, .bool false, .slice none 0 0])) rfl (by omega)
  repeat (first | refine run_S ?_ | refine w_box (fun _ => ?_) | refine w_al (fun _ => ?_))
  rename_i b8
  refine st_perm (M := (b8, .var (.agg #[.int .i64 (r : Int), .int .i64 (n : Int), .slice (some ⟨bl, 0, none⟩) (r * n) (r * n)]), TM) :: (bl, .arr (List.replicate (r * n) (.agg #[.bool false, .slice none 0 0, .bool false, .slice none 0 0])), TR) :: (b6, .var (.agg #[.int .i64 0, .int .i64 0, .slice none 0 0]), TM) :: (b4, .var (.agg #[.int .i64 (r : Int), .int .i64 (n : Int), .slice pb (r * n) ccb]), TM) :: (b3, .var (.agg #[.int .i64 (r : Int), .int .i64 (n : Int), .slice pa (r * n) cca]), TM) :: M) (M' := (b8, .var (.agg #[.int .i64 (r : Int), .int .i64 (n : Int), .slice (some ⟨bl, 0, none⟩) (r * n) (r * n)]), TM) :: (b6, .var (.agg #[.int .i64 0, .int .i64 0, .slice none 0 0]), TM) :: (b4, .var (.agg #[.int .i64 (r : Int), .int .i64 (n : Int), .slice pb (r * n) ccb]), TM) :: (b3, .var (.agg #[.int .i64 (r : Int), .int .i64 (n : Int), .slice pa (r * n) cca]), TM) :: ([(bl, .arr (List.replicate (r * n) (.agg #[.bool false, .slice none 0 0, .bool false, .slice none 0 0])), TR)] ++ M)) pm ?_
  refine st_loop (fun z E U' M' => ∃ (i : Nat) (us : List Value) (D : MH), i ≤ r * n ∧ RowO TR 4 D (some ⟨bl, 0, none⟩) (r * n) (r * n) us ∧ ElTo Vq U' i us (fl n fun i j => op (A i j) (B i j)) ∧ E = [(45, .int .i64 (i : Int)), (44, .int .i64 ((r * n : Nat) : Int)), (2, .func (.func c) #[] cs.toArray), (3, .pointer (some ⟨b3, 0, none⟩)), (4, .pointer (some ⟨b4, 0, none⟩)), (6, .pointer (some ⟨b6, 0, none⟩)), (8, .pointer (some ⟨b8, 0, none⟩))] ∧ ULe U U' ∧ M' = (b8, .var (.agg #[.int .i64 (r : Int), .int .i64 (n : Int), .slice (some ⟨bl, 0, none⟩) (r * n) (r * n)]), TM) :: (b6, .var (.agg #[.int .i64 0, .int .i64 0, .slice none 0 0]), TM) :: (b4, .var (.agg #[.int .i64 (r : Int), .int .i64 (n : Int), .slice pb (r * n) ccb]), TM) :: (b3, .var (.agg #[.int .i64 (r : Int), .int .i64 (n : Int), .slice pa (r * n) cca]), TM) :: (D ++ M) ∧ z = r * n - i) (n0 := r * n)
    (E0 := [(45, .int .i64 ((0 : Nat) : Int)), (44, .int .i64 ((r * n : Nat) : Int)), (2, .func (.func c) #[] cs.toArray), (3, .pointer (some ⟨b3, 0, none⟩)), (4, .pointer (some ⟨b4, 0, none⟩)), (6, .pointer (some ⟨b6, 0, none⟩)), (8, .pointer (some ⟨b8, 0, none⟩))]) ⟨rfl, rfl, rfl, rfl, rfl, rfl, rfl, trivial⟩ ⟨0, _, _, by omega, hrow, (fun k x hk => absurd hk (Nat.not_lt_zero k)), rfl, uc, rfl, rfl⟩ ?_
  clear hrow
  rintro z E U1 M' ⟨i, us, D, hi, hrow, hel, rfl, hU1, rfl, rfl⟩
  try refine run_s ?_
  refine st_dec rfl (fun h => ?_) (fun h => ?_)
  · have hin : i < r * n := by omega
    obtain ⟨v1, hv1⟩ := ra.at hin
    obtain ⟨x1, rfl, hx1, hl1⟩ := ea _ _ hv1
    obtain ⟨v2, hv2⟩ := rb.at hin
    obtain ⟨x2, rfl, hx2, hl2⟩ := eb _ _ hv2
    try refine run_s ?_
    refine st_drawM [15, 16] [0, 1, 2, 3, 4, 5, 6, 7, 8, 9, 10, 11, 12, 13, 14, 15, 16] sym (by kernel_rfl) ?_
    try refine run_s ?_
    refine sl_y (yl_index sym rfl rfl rfl rfl rfl rfl ((ra.up uc sb).lt hv1) ((ra.up uc sb).get _ _ hv1).1) rfl rfl rfl rfl ?_; refine sl_y (yl_loadRs sym rfl rfl rfl rfl rfl (ra.up uc sb) hv1) rfl rfl rfl rfl ?_
    try refine run_s ?_
    refine sl_y (yl_index sym rfl rfl rfl rfl rfl rfl ((rb.up uc sb).lt hv2) ((rb.up uc sb).get _ _ hv2).1) rfl rfl rfl rfl ?_; refine sl_y (yl_loadRs sym rfl rfl rfl rfl rfl (rb.up uc sb) hv2) rfl rfl rfl rfl ?_
    try refine run_s ?_
    refine sl_callV rfl rfl rfl rfl rfl rfl rfl (fun M2 => (hdo _ _ x1 x2 _ _ uc sb (hx1.up uc (List.Sublist.refl _)) hl1 (hx2.up uc (List.Sublist.refl _)) hl2).settle) ?_
    rintro v3 U3 D3 hU3 ⟨rfl, _, _, ⟨x3, rfl, h3, -⟩, -, -, hs⟩
    replace h3 := h3.sett hs
    clear hs
    rw [List.nil_append]
    try refine run_s ?_
    refine w_addr (j := i) hin rfl ?_
    refine w_storeR (v := x3.v) (X := (b8, .var (.agg #[.int .i64 (r : Int), .int .i64 (n : Int), .slice (some ⟨bl, 0, none⟩) (r * n) (r * n)]), TM) :: (b6, .var (.agg #[.int .i64 0, .int .i64 0, .slice none 0 0]), TM) :: (b4, .var (.agg #[.int .i64 (r : Int), .int .i64 (n : Int), .slice pb (r * n) ccb]), TM) :: (b3, .var (.agg #[.int .i64 (r : Int), .int .i64 (n : Int), .slice pa (r * n) cca]), TM) :: M) hrow pm hin (fun D4 hr4 => ?_)
    refine sl_perm (M' := (b8, .var (.agg #[.int .i64 (r : Int), .int .i64 (n : Int), .slice (some ⟨bl, 0, none⟩) (r * n) (r * n)]), TM) :: (b6, .var (.agg #[.int .i64 0, .int .i64 0, .slice none 0 0]), TM) :: (b4, .var (.agg #[.int .i64 (r : Int), .int .i64 (n : Int), .slice pb (r * n) ccb]), TM) :: (b3, .var (.agg #[.int .i64 (r : Int), .int .i64 (n : Int), .slice pa (r * n) cca]), TM) :: (D4 ++ M)) ?_ pm
    try refine run_s ?_
    exact sk_again (E' := [(45, .int .i64 ((i : Int) + 1)), (44, .int .i64 ((r * n : Nat) : Int)), (2, .func (.func c) #[] cs.toArray), (3, .pointer (some ⟨b3, 0, none⟩)), (4, .pointer (some ⟨b4, 0, none⟩)), (6, .pointer (some ⟨b6, 0, none⟩)), (8, .pointer (some ⟨b8, 0, none⟩))]) (m := r * n - (i + 1)) ⟨rfl, rfl, rfl, rfl, rfl, rfl, rfl, trivial⟩ (by omega)
      ⟨i + 1, _, D4, by omega, hr4, (hel.up kept_q uc).next ⟨x3, rfl, h3⟩, rfl, uc, rfl, rfl⟩
  · have e : i = r * n := by omega
    subst e
    repeat (first | refine run_S ?_ | refine w_box (fun _ => ?_) | refine w_al (fun _ => ?_))
    exact sk_ret D sym rfl (.cons (.cell 1 rfl rfl rfl) (.cons (.tmp rfl) .nil)) uc sb (.inl rfl) ⟨_, rfl, ⟨_, rfl, _, _, us, rfl, hrow, hel.all hrow.len.1⟩, uc⟩

theorem mAdd_co {r n b : Nat} {va vb : Value} {A B : Nat → Nat → Rat} (ha : Vm (Wq b) r n U va A) (hv : Vm (Wq b) r n U vb B) (hb : b ≤ 10000000000) (hr : r ≤ 1000) (hn : n ≤ 1000) :
    Ct Tryz.prog 56 [va, vb] G U M fun v U' D => ∃ vC, v = .tuple #[vC, .int .i64 0] ∧ Vmo r n U' D vC (fun i j => A i j + B i j) ∧ ULe U U' := by
  obtain ⟨_, rfl, pa, cca, as1, rfl, ra⟩ := id ha
  obtain ⟨_, rfl, pb, ccb, bs1, rfl, rb⟩ := id hv
  refine ct_of_st Tryz.func56 rfl rfl rfl rfl ?_
  repeat (first | refine run_S ?_ | refine w_box (fun _ => ?_) | refine w_al (fun _ => ?_))
  refine sl_call rfl rfl rfl rfl rfl rfl (fun _ => each_co (cs := []) (op := fun p q => p + q) (kept_m kept_w _ _ _ _ uc ha) (kept_m kept_w _ _ _ _ uc hv) (fun U' M' x y p q _ _ hx hxl hy hyl => qAdd_ct (hx.up (ULe.refl _) (List.nil_sublist _)) (by omega) (hy.up (ULe.refl _) (List.nil_sublist _)) (by omega)) hr hn) ?_
  rintro v1 U1 D1 hU1 ⟨_, rfl, ⟨_, rfl, p1, c1, s1, rfl, h1⟩, -⟩
  refine sl_perm ?_ (perm3 (D := D1))
  repeat (first | refine run_S ?_ | refine w_box (fun _ => ?_) | refine w_al (fun _ => ?_))
  exact sk_ret D1 sym rfl (.cons (.cell 0 rfl rfl rfl) (.cons (.tmp rfl) .nil)) uc sb (.inl rfl) ⟨_, rfl, ⟨_, rfl, p1, c1, s1, rfl, h1⟩, uc⟩

theorem mSub_co {r n b : Nat} {va vb : Value} {A B : Nat → Nat → Rat} (ha : Vm (Wq b) r n U va A) (hv : Vm (Wq b) r n U vb B) (hb : b ≤ 10000000000) (hr : r ≤ 1000) (hn : n ≤ 1000) :
    Ct Tryz.prog 57 [va, vb] G U M fun v U' D => ∃ vC, v = .tuple #[vC, .int .i64 0] ∧ Vmo r n U' D vC (fun i j => A i j - B i j) ∧ ULe U U' := by
  obtain ⟨_, rfl, pa, cca, as1, rfl, ra⟩ := id ha
  obtain ⟨_, rfl, pb, ccb, bs1, rfl, rb⟩ := id hv
  refine ct_of_st Tryz.func57 rfl rfl rfl rfl ?_
  repeat (first | refine run_S ?_ | refine w_box (fun _ => ?_) | refine w_al (fun _ => ?_))
  refine sl_call rfl rfl rfl rfl rfl rfl (fun _ => each_co (cs := []) (op := fun p q => p - q) (kept_m kept_w _ _ _ _ uc ha) (kept_m kept_w _ _ _ _ uc hv) (fun U' M' x y p q _ _ hx hxl hy hyl => qSub_ct (hx.up (ULe.refl _) (List.nil_sublist _)) (by omega) (hy.up (ULe.refl _) (List.nil_sublist _)) (by omega)) hr hn) ?_
  rintro v1 U1 D1 hU1 ⟨_, rfl, ⟨_, rfl, p1, c1, s1, rfl, h1⟩, -⟩
  refine sl_perm ?_ (perm3 (D := D1))
  repeat (first | refine run_S ?_ | refine w_box (fun _ => ?_) | refine w_al (fun _ => ?_))
  exact sk_ret D1 sym rfl (.cons (.cell 0 rfl rfl rfl) (.cons (.tmp rfl) .nil)) uc sb (.inl rfl) ⟨_, rfl, ⟨_, rfl, p1, c1, s1, rfl, h1⟩, uc⟩

/-- The closure in Scale. -/
theorem scale1_ct {b3 b : Nat} {xs y z : QV} {p q : Rat} (hs : xs.rep U [] p) (hsl : xs.le b) (hy : y.rep U [] q) (hyl : y.le b) (hb : b ≤ 10000000000) (hM : [(b3, Blk.var xs.v, TR)].Sublist M) :
    Ct Tryz.prog 102 [y.v, z.v, .pointer (some ⟨b3, 0, none⟩)] G U M fun v U' D => ∃ r : QV, v = r.v ∧ r.own D (p * q) ∧ ULe U U' := by
  obtain ⟨l1, l2, rfl⟩ := List.append_of_mem (List.singleton_sublist.1 hM)
  refine Ct.perm (M' := (b3, .var xs.v, TR) :: (l1 ++ l2)) ?_ List.perm_middle
  clear hM
  generalize l1 ++ l2 = M
  refine ct_of_st Tryz.func102 rfl rfl rfl rfl ?_
  repeat (first | refine run_S ?_ | refine w_box (fun _ => ?_) | refine w_al (fun _ => ?_))
  rename_i b1 b2 b5
  refine sl_call rfl rfl rfl rfl rfl rfl (fun _ => qMul_ct (hs.up uc (List.nil_sublist _)) (by omega) (hy.up uc (List.nil_sublist _)) (by omega)) ?_
  rintro v1 U1 D1 hU1 ⟨r1, rfl, h1, -⟩
  refine sl_perm ?_ (perm3 (D := D1))
  repeat (first | refine run_S ?_ | refine w_box (fun _ => ?_) | refine w_al (fun _ => ?_))
  exact sk_ret D1 sym rfl (.cons (.cell 0 rfl rfl rfl) .nil) uc sb (.inl rfl) ⟨r1, rfl, h1, uc⟩

theorem mScale_co {r n b : Nat} {va : Value} {A : Nat → Nat → Rat} {xs : QV} {q : Rat} (ha : Vm (Wq b) r n U va A) (hs : xs.rep U [] q) (hsl : xs.le b) (hb : b ≤ 10000000000) (hr : r ≤ 1000) (hn : n ≤ 1000) :
    Ct Tryz.prog 52 [va, xs.v] G U M fun v U' D => ∃ vC, v = .tuple #[vC, .int .i64 0] ∧ Vmo r n U' D vC (fun i j => q * A i j) ∧ ULe U U' := by
  obtain ⟨_, rfl, pa, cca, as1, rfl, ra⟩ := id ha
  refine ct_of_st Tryz.func52 rfl rfl rfl rfl ?_
  repeat (first | refine run_S ?_ | refine w_box (fun _ => ?_) | refine w_al (fun _ => ?_))
  rename_i b2 b3 b4
  refine sl_y (yl_makeFunc rfl rfl) rfl rfl rfl rfl ?_
  repeat (first | refine run_S ?_ | refine w_box (fun _ => ?_) | refine w_al (fun _ => ?_))
  refine sl_call rfl rfl rfl rfl rfl rfl (fun _ => each_co (cs := [.pointer (some ⟨b3, 0, none⟩)]) (op := fun p _ => q * p) (kept_m kept_w _ _ _ _ uc ha) (kept_m kept_w _ _ _ _ uc ha) (fun U' M' x y p _ hU hsub hx hxl hy hyl => scale1_ct (hs.up uc (List.Sublist.refl _)) hsl hx hxl hb (List.Sublist.trans sbk hsub)) hr hn) ?_
  rintro v1 U1 D1 hU1 ⟨_, rfl, ⟨_, rfl, p1, c1, s1, rfl, h1⟩, -⟩
  refine sl_perm ?_ (perm3 (D := D1))
  repeat (first | refine run_S ?_ | refine w_box (fun _ => ?_) | refine w_al (fun _ => ?_))
  exact sk_ret D1 sym rfl (.cons (.cell 0 rfl rfl rfl) (.cons (.tmp rfl) .nil)) uc sb (.inl rfl) ⟨_, rfl, ⟨_, rfl, p1, c1, s1, rfl, h1⟩, uc⟩

end Go.Proofs.YtcfgogamamdipaaGreat
