/- Walks of matrix: New, FromRows, Row. -/
import Derived.Test.YtcfgogamamdipaaGreatB105
import Derived.Test.YtcfgogamamdipaaGreatB100
namespace Go.Proofs.YtcfgogamamdipaaGreat
open Go.Hp
variable {G : World} {U U' : UH} {M M' : MH}

abbrev zeroM : Value := .agg #[.int .i64 0, .int .i64 0, .slice none 0 0]

theorem mNew_err {r c : Int} (h : ¬ ((0 ≤ r ∧ r ≤ 1024) ∧ (0 ≤ c ∧ c ≤ 1024))) :
    Ct Tryz.prog 35 [.int .i64 r, .int .i64 c] G U M fun v U' D => v = .tuple #[.agg #[.int .i64 0, .int .i64 0, .slice none 0 0], .int .i64 4] ∧ U = U' ∧ D = [] := by
  refine ct_of_st Tryz.func35 rfl rfl rfl rfl ?_
  repeat (first | refine run_S ?_ | refine w_box (fun _ => ?_) | refine w_al (fun _ => ?_))
  refine sl_call rfl rfl rfl rfl rfl rfl (fun _ => fits_ct (n := r)) ?_
  rintro v U' D hU ⟨rfl, rfl, rfl⟩
  repeat (first | refine run_S ?_ | refine w_box (fun _ => ?_) | refine w_al (fun _ => ?_))
  by_cases hr : 0 ≤ r ∧ r ≤ 1024
  · rw [decide_eq_true hr]
    repeat (first | refine run_S ?_ | refine w_box (fun _ => ?_) | refine w_al (fun _ => ?_))
    refine sl_call rfl rfl rfl rfl rfl rfl (fun _ => fits_ct (n := c)) ?_
    rintro v U' D hU ⟨rfl, rfl, rfl⟩
    repeat (first | refine run_S ?_ | refine w_box (fun _ => ?_) | refine w_al (fun _ => ?_))
    rw [decide_eq_false (fun hc => h ⟨hr, hc⟩)]
    repeat (first | refine run_S ?_ | refine w_box (fun _ => ?_) | refine w_al (fun _ => ?_))
    exact sk_ret [] sym rfl (.cons (.cell 0 rfl rfl rfl) (.cons (.tmp rfl) .nil)) uc sb (.inl rfl) ⟨rfl, rfl, rfl⟩
  · rw [decide_eq_false hr]
    repeat (first | refine run_S ?_ | refine w_box (fun _ => ?_) | refine w_al (fun _ => ?_))
    exact sk_ret [] sym rfl (.cons (.cell 0 rfl rfl rfl) (.cons (.tmp rfl) .nil)) uc sb (.inl rfl) ⟨rfl, rfl, rfl⟩

theorem mNew_ct {r c : Nat} (hr : r ≤ 1024) (hc : c ≤ 1024) :
    Ct Tryz.prog 35 [.int .i64 (r : Int), .int .i64 (c : Int)] G U M fun v U' D => ∃ vI, v = .tuple #[vI, .int .i64 0] ∧ Vm Vq r c U' vI (fun _ _ => 0) ∧ D = [] := by
  have hrc : r * c ≤ 1024 * 1024 := Nat.mul_le_mul hr hc
  refine (Ct.settle (R := fun v U' D => ∃ vI, v = .tuple #[vI, .int .i64 0] ∧ Vmo r c U' D vI (fun _ _ => 0) ∧ ULe U U') ?_).mono fun _ _ _ _ ⟨h1, _, _, ⟨vI, h2, ⟨a, h3, h4⟩, _⟩, _, h5, h6⟩ => ⟨vI, h2, ⟨a, h3, h4.sett kept_q h5 h6⟩, h1⟩
  refine ct_of_st Tryz.func35 rfl rfl rfl rfl ?_
  repeat (first | refine run_S ?_ | refine w_box (fun _ => ?_) | refine w_al (fun _ => ?_))
  rename_i b2
  refine sl_call rfl rfl rfl rfl rfl rfl (fun _ => fits_ct (n := (r : Int))) ?_
  rintro v U' D hU ⟨rfl, rfl, rfl⟩
  repeat (first | refine run_S ?_ | refine w_box (fun _ => ?_) | refine w_al (fun _ => ?_))
  rw [decide_eq_true (show 0 ≤ (r : Int) ∧ (r : Int) ≤ 1024 from ⟨by omega, by omega⟩)]
  repeat (first | refine run_S ?_ | refine w_box (fun _ => ?_) | refine w_al (fun _ => ?_))
  refine sl_call rfl rfl rfl rfl rfl rfl (fun _ => fits_ct (n := (c : Int))) ?_
  rintro v U' D hU ⟨rfl, rfl, rfl⟩
  repeat (first | refine run_S ?_ | refine w_box (fun _ => ?_) | refine w_al (fun _ => ?_))
  rw [decide_eq_true (show 0 ≤ (c : Int) ∧ (c : Int) ≤ 1024 from ⟨by omega, by omega⟩)]
  repeat (first | refine run_S ?_ | refine w_box (fun _ => ?_) | refine w_al (fun _ => ?_))
  refine sl_call rfl rfl rfl rfl rfl rfl (fun _ => mblank_co (r := r) (c := c) (by omega) (by omega)) ?_
  rintro v1 U1 D1 hU1 ⟨hgu, -⟩
  repeat (first | refine run_S ?_ | refine w_box (fun _ => ?_) | refine w_al (fun _ => ?_))
  refine sl_call rfl rfl rfl rfl rfl rfl (fun _ => mstore_ct (hgu.w.lg (M := D1 ++ ([] ++ ([] ++ ((b2, .var (.agg #[.int .i64 0, .int .i64 0, .slice none 0 0]), TM) :: M)))) sb |>.up uc sb) (by omega) (by omega) (by omega)) ?_
  rintro v6 U6 D6 hU6 ⟨⟨_, rfl, p6, c6, vs6, rfl, h6, e6⟩, -⟩
  refine sl_perm (M' := (b2, .var (.agg #[.int .i64 0, .int .i64 0, .slice none 0 0]), TM) :: (D6 ++ (D1 ++ M))) ?_ pm
  repeat (first | refine run_S ?_ | refine w_box (fun _ => ?_) | refine w_al (fun _ => ?_))
  exact sk_ret D6 sym rfl (.cons (.cell 0 rfl rfl rfl) (.cons (.tmp rfl) .nil)) uc sb (.inl rfl) ⟨_, rfl, ⟨_, rfl, p6, c6, vs6, rfl, h6, e6⟩, uc⟩

theorem mIdentity_err {n : Int} (h : ¬ (0 ≤ n ∧ n ≤ 1024)) :
    Ct Tryz.prog 36 [.int .i64 n] G U M fun v U' D => v = .tuple #[.agg #[.int .i64 0, .int .i64 0, .slice none 0 0], .int .i64 4] ∧ U = U' ∧ D = [] := by
  refine ct_of_st Tryz.func36 rfl rfl rfl rfl ?_
  repeat (first | refine run_S ?_ | refine w_box (fun _ => ?_) | refine w_al (fun _ => ?_))
  refine sl_call rfl rfl rfl rfl rfl rfl (fun _ => fits_ct (n := n)) ?_
  rintro v U' D hU ⟨rfl, rfl, rfl⟩
  repeat (first | refine run_S ?_ | refine w_box (fun _ => ?_) | refine w_al (fun _ => ?_))
  rw [decide_eq_false h]
  repeat (first | refine run_S ?_ | refine w_box (fun _ => ?_) | refine w_al (fun _ => ?_))
  exact sk_ret [] sym rfl (.cons (.cell 0 rfl rfl rfl) (.cons (.tmp rfl) .nil)) uc sb (.inl rfl) ⟨rfl, rfl, rfl⟩

/-- A row of so many fractions. -/
def Rq (b : Nat) (U : UH) (v : Value) (g : Nat × (Nat → Rat)) : Prop := g.1 ≤ 9223372036854775807 ∧ Ls (Wq b) 4 g.1 U [] v g.2
theorem kept_rq {b : Nat} : Kept (Rq b) := fun _ _ _ _ hU h => ⟨h.1, Ls.up h.2 kept_w hU (List.Sublist.refl _)⟩

theorem mFromRows_ct {r b : Nat} {c : Int} {vr : Value} {g : Nat → Nat × (Nat → Rat)} (hr : Ls (Rq b) 1 r U [] vr g) (hb : b ≤ 10000000000) (hr1 : r ≤ 9223372036854775807) :
    Ct Tryz.prog 34 [.int .i64 c, vr] G U M fun v U' D => ∃ (vM : Value) (e : Int), v = .tuple #[vM, .int .i64 e] ∧
      (((0 ≤ c ∧ c ≤ 1024) ∧ r ≤ 1024 ∧ ∀ k, k < r → ((g k).1 : Int) = c) → e = 0 ∧ Vm Vq r c.toNat U' vM (fun i j => (g i).2 j)) ∧
      (¬ ((0 ≤ c ∧ c ≤ 1024) ∧ r ≤ 1024 ∧ ∀ k, k < r → ((g k).1 : Int) = c) → e = 4 ∧ vM = .agg #[.int .i64 0, .int .i64 0, .slice none 0 0]) ∧ D = [] := by
  refine (Ct.settle (R := fun v U' D => ∃ (vM : Value) (e : Int), v = .tuple #[vM, .int .i64 e] ∧
      (((0 ≤ c ∧ c ≤ 1024) ∧ r ≤ 1024 ∧ ∀ k, k < r → ((g k).1 : Int) = c) → e = 0 ∧ Vmo r c.toNat U' D vM (fun i j => (g i).2 j)) ∧
      (¬ ((0 ≤ c ∧ c ≤ 1024) ∧ r ≤ 1024 ∧ ∀ k, k < r → ((g k).1 : Int) = c) → e = 4 ∧ vM = .agg #[.int .i64 0, .int .i64 0, .slice none 0 0])) ?_).mono
    fun _ _ _ _ ⟨h1, _, _, ⟨vM, e, h2, h3, h4⟩, _, h5, h6⟩ => ⟨vM, e, h2, fun h => by obtain ⟨h7, a, h8, h9⟩ := h3 h; exact ⟨h7, a, h8, h9.sett kept_q h5 h6⟩, h4, h1⟩
  obtain ⟨pr, cr, rs, rfl, hcr, rr, er⟩ := hr
  refine ct_of_st Tryz.func34 rfl rfl rfl rfl ?_
  repeat (first | refine run_S ?_ | refine w_box (fun _ => ?_) | refine w_al (fun _ => ?_))
  rename_i b4
  refine sl_call rfl rfl rfl rfl rfl rfl (fun _ => fits_ct (n := c)) ?_
  rintro v U' D hU ⟨rfl, rfl, rfl⟩
  repeat (first | refine run_S ?_ | refine w_box (fun _ => ?_) | refine w_al (fun _ => ?_))
  by_cases hc : 0 ≤ c ∧ c ≤ 1024
  · rw [decide_eq_true hc]
    obtain ⟨c, rfl⟩ := Int.eq_ofNat_of_zero_le hc.1
    rw [show ((c : Int)).toNat = c from rfl]
    repeat (first | refine run_S ?_ | refine w_box (fun _ => ?_) | refine w_al (fun _ => ?_))
    refine sl_call rfl rfl rfl rfl rfl rfl (fun _ => fits_ct (n := (r : Int))) ?_
    rintro v U' D hU ⟨rfl, rfl, rfl⟩
    repeat (first | refine run_S ?_ | refine w_box (fun _ => ?_) | refine w_al (fun _ => ?_))
    by_cases hr2 : 0 ≤ (r : Int) ∧ (r : Int) ≤ 1024
    · rw [decide_eq_true hr2]
      have hc2 : c ≤ 1024 := by omega
      have hr3 : r ≤ 1024 := by omega
      have hrc : r * c ≤ 1024 * 1024 := Nat.mul_le_mul hr3 hc2
      repeat (first | refine run_S ?_ | refine w_box (fun _ => ?_) | refine w_al (fun _ => ?_))
      rename_i b6
      refine st_loop (fun z E U' M' => ∃ (i : Nat) (P : Option Addr) (C : Nat) (vs : List Value) (D : MH), i ≤ r ∧ (∀ k, k < i → ((g k).1 : Int) = c) ∧ RowO TR 4 D P (i * c) C vs ∧ El (Wq b) U' vs (fl c fun i j => (g i).2 j) ∧
          E = [(25, .int .i64 (i : Int)), (24, .int .i64 (r : Int)), (23, .slice pr r cr), (0, .int .i64 (c : Int)), (4, .pointer (some ⟨b4, 0, none⟩)), (5, .int .i64 0), (6, .pointer (some ⟨b6, 0, none⟩))] ∧ U = U' ∧
          M' = (b6, .var (.agg #[.int .i64 (r : Int), .int .i64 (c : Int), .slice P (i * c) C]), TM) :: (b4, .var (.agg #[.int .i64 0, .int .i64 0, .slice none 0 0]), TM) :: (D ++ M) ∧ z = r - i) (n0 := r)
        (E0 := [(25, .int .i64 ((0 : Nat) : Int)), (24, .int .i64 (r : Int)), (23, .slice pr r cr), (0, .int .i64 (c : Int)), (4, .pointer (some ⟨b4, 0, none⟩)), (5, .int .i64 0), (6, .pointer (some ⟨b6, 0, none⟩))]) ⟨rfl, rfl, rfl, rfl, rfl, rfl, rfl, trivial⟩
        ⟨0, none, 0, [], [], by omega, (fun k h => absurd h (Nat.not_lt_zero k)), by rw [Nat.zero_mul]; exact RowO.nil, El.nil, rfl, rfl, by rw [Nat.zero_mul]; rfl, rfl⟩ ?_
      rintro z E U1 M' ⟨i, P, C, vs, D, hi, hall, hrow, hel, rfl, rfl, rfl, rfl⟩
      try refine run_s ?_
      refine st_dec rfl (fun h => ?_) (fun h => ?_)
      · have hir : i < r := by omega
        have hlt : i * c + c ≤ r * c := by
          have := Nat.mul_le_mul_right c (show i + 1 ≤ r by omega)
          rwa [Nat.add_mul, Nat.one_mul] at this
        obtain ⟨v1, hv1⟩ := rr.at hir
        obtain ⟨hl1, p2, c2, us, rfl, hc2', rw2, el2⟩ := er _ _ hv1
        try refine run_s ?_
        refine sl_y (yl_index sym rfl rfl rfl rfl rfl rfl ((rr.up uc sb).lt hv1) ((rr.up uc sb).get _ _ hv1).1) rfl rfl rfl rfl ?_; refine sl_y (yl_loadR1 sym rfl rfl rfl rfl (rr.up uc sb) hv1 rfl) rfl rfl rfl rfl ?_
        try refine run_s ?_
        refine st_ne rfl (fun hne => ?_) (fun heq => ?_)
        · repeat (first | refine run_S ?_ | refine w_box (fun _ => ?_) | refine w_al (fun _ => ?_))
          exact sk_ret [] sym rfl (.cons (.cell 1 rfl rfl rfl) (.cons (.tmp rfl) .nil)) uc sb (.inl rfl) ⟨_, 4, rfl, (fun hk => absurd (hk.2.2 i hir) hne), (fun _ => ⟨rfl, rfl⟩)⟩
        · have hl : (g i).1 = c := by omega
          rw [hl] at rw2 hc2' ⊢
          have e2 : i * c + c = (i + 1) * c := by rw [Nat.add_mul, Nat.one_mul]
          try refine run_s ?_
          refine w_app (X := (b6, .var (.agg #[.int .i64 (r : Int), .int .i64 (c : Int), .slice P (i * c) C]), TM) :: (b4, .var (.agg #[.int .i64 0, .int .i64 0, .slice none 0 0]), TM) :: M) hrow pm (rw2.up uc sb) (El.ones el2 fun _ _ h => one_w h) (fun p3 c3 D3 hr3 => ?_)
          refine sl_perm ?_ (perm2 (D := D3))
          try refine run_s ?_
          refine sl_storeF 0 sym rfl rfl rfl rfl rfl rfl rfl rfl rfl rfl rfl ?_
          try refine run_s ?_
          rw [e2] at hr3 ⊢
          exact sk_again (E' := [(25, .int .i64 ((i : Int) + 1)), (24, .int .i64 (r : Int)), (23, .slice pr r cr), (0, .int .i64 (c : Int)), (4, .pointer (some ⟨b4, 0, none⟩)), (5, .int .i64 0), (6, .pointer (some ⟨b6, 0, none⟩))]) (m := r - (i + 1)) ⟨rfl, rfl, rfl, rfl, rfl, rfl, rfl, trivial⟩ (by omega)
            ⟨i + 1, p3, c3, _, D3, by omega, (fun k hk => by
              rcases Nat.lt_or_eq_of_le (Nat.le_of_lt_succ hk) with h1 | h1
              · exact hall k h1
              · rw [h1]; omega), hr3, app_ok hrow.len.1 hel (fun k x hk => by rw [fl_at (rw2.lt hk)]; exact el2 k x hk), rfl, rfl, rfl, rfl⟩
      · have e : i = r := by omega
        subst e
        refine st_perm (M' := D ++ ((b6, .var (.agg #[.int .i64 (i : Int), .int .i64 (c : Int), .slice P (i * c) C]), TM) :: (b4, .var (.agg #[.int .i64 0, .int .i64 0, .slice none 0 0]), TM) :: M)) pm ?_
        refine st_settleAll fun U2 hU2 hs2 => ?_
        have hm : Vm (Wq b) i c U2 (.agg #[.int .i64 (i : Int), .int .i64 (c : Int), .slice P (i * c) C]) (fun i j => (g i).2 j) := ⟨_, rfl, P, C, vs, rfl, hrow.len.2.1, hrow.sett hs2, hel.up kept_w uc⟩
        try refine run_s ?_
        refine sl_call rfl rfl rfl rfl rfl rfl (fun _ => mload_co (kept_m kept_w _ _ _ _ uc hm) (by omega) (by omega) (by omega) (by omega)) ?_
        rintro v3 U3 D3 hU3 ⟨hg3, -⟩
        repeat (first | refine run_S ?_ | refine w_box (fun _ => ?_) | refine w_al (fun _ => ?_))
        refine sl_call rfl rfl rfl rfl rfl rfl (fun _ => mstore_ct (hg3.w.lg (M := D3 ++ ((b6, .var (.agg #[.int .i64 (i : Int), .int .i64 (c : Int), .slice P (i * c) C]), TM) :: (b4, .var (.agg #[.int .i64 0, .int .i64 0, .slice none 0 0]), TM) :: M)) sb |>.up uc sb) (by omega) (by omega) (by omega)) ?_
        rintro v6 U6 D6 hU6 ⟨⟨_, rfl, p6, c6, vs6, rfl, h6, e6⟩, -⟩
        refine sl_perm (M' := (b6, .var (.agg #[.int .i64 (i : Int), .int .i64 (c : Int), .slice P (i * c) C]), TM) :: (b4, .var (.agg #[.int .i64 0, .int .i64 0, .slice none 0 0]), TM) :: (D6 ++ (D3 ++ M))) ?_ pm
        repeat (first | refine run_S ?_ | refine w_box (fun _ => ?_) | refine w_al (fun _ => ?_))
        exact sk_ret D6 sym rfl (.cons (.cell 1 rfl rfl rfl) (.cons (.tmp rfl) .nil)) uc sb (.inl rfl) ⟨_, 0, rfl, (fun _ => ⟨rfl, _, rfl, p6, c6, vs6, rfl, h6, e6⟩), (fun hk => absurd ⟨hc, hr3, hall⟩ hk)⟩
    · rw [decide_eq_false hr2]
      repeat (first | refine run_S ?_ | refine w_box (fun _ => ?_) | refine w_al (fun _ => ?_))
      exact sk_ret [] sym rfl (.cons (.cell 0 rfl rfl rfl) (.cons (.tmp rfl) .nil)) uc sb (.inl rfl) ⟨_, 4, rfl, (fun hk => absurd (show 0 ≤ (r : Int) ∧ (r : Int) ≤ 1024 from ⟨by omega, by have := hk.2.1; omega⟩) hr2), (fun _ => ⟨rfl, rfl⟩)⟩
  · rw [decide_eq_false hc]
    repeat (first | refine run_S ?_ | refine w_box (fun _ => ?_) | refine w_al (fun _ => ?_))
    exact sk_ret [] sym rfl (.cons (.cell 0 rfl rfl rfl) (.cons (.tmp rfl) .nil)) uc sb (.inl rfl) ⟨_, 4, rfl, (fun hk => absurd hk.1 hc), (fun _ => ⟨rfl, rfl⟩)⟩

theorem mRow_err {r c : Nat} {i : Int} {p : Option Addr} {cc : Nat} (hi : i < 0 ∨ (r : Int) ≤ i) (hr : r ≤ 1024) (hc : c ≤ 1024) :
    Ct Tryz.prog 40 [.agg #[.int .i64 (r : Int), .int .i64 (c : Int), .slice p (r * c) cc], .int .i64 i] G U M fun v U' D => v = .tuple #[.slice none 0 0, .int .i64 2] ∧ U = U' ∧ D = [] := by
  have hrc : r * c ≤ 1024 * 1024 := Nat.mul_le_mul hr hc
  refine ct_of_st Tryz.func40 rfl rfl rfl rfl ?_
  repeat (first | refine run_S ?_ | refine w_box (fun _ => ?_) | refine w_al (fun _ => ?_))
  refine sl_call rfl rfl rfl rfl rfl rfl (fun _ => mValid_ct (r := (r : Int)) (c := (c : Int)) (n := r * c) (p := p) (cc := cc) (by omega)) ?_
  rintro v U' D hU ⟨rfl, rfl, rfl⟩
  repeat (first | refine run_S ?_ | refine w_box (fun _ => ?_) | refine w_al (fun _ => ?_))
  rw [decide_eq_true (vld_of hr hc)]
  repeat (first | refine run_S ?_ | refine w_box (fun _ => ?_) | refine w_al (fun _ => ?_))
  refine sl_gdec rfl rfl (fun h => ?_) (fun h => ?_)
  · repeat (first | refine run_S ?_ | refine w_box (fun _ => ?_) | refine w_al (fun _ => ?_))
    exact sk_ret [] sym rfl (.cons (.tmp rfl) (.cons (.tmp rfl) .nil)) uc sb (.inl rfl) ⟨rfl, rfl, rfl⟩
  · repeat (first | refine run_S ?_ | refine w_box (fun _ => ?_) | refine w_al (fun _ => ?_))
    refine st_dec rfl (fun _ => ?_) (fun h2 => absurd hi (by omega))
    repeat (first | refine run_S ?_ | refine w_box (fun _ => ?_) | refine w_al (fun _ => ?_))
    exact sk_ret [] sym rfl (.cons (.tmp rfl) (.cons (.tmp rfl) .nil)) uc sb (.inl rfl) ⟨rfl, rfl, rfl⟩

theorem mRow_ct {r c i b : Nat} {vm : Value} {A : Nat → Nat → Rat} (hm : Vm (Wq b) r c U vm A) (hb : b ≤ 10000000000) (hi : i < r) (hr : r ≤ 1024) (hc : c ≤ 1024) :
    Ct Tryz.prog 40 [vm, .int .i64 (i : Int)] G U M fun v U' D => ∃ vx, v = .tuple #[vx, .int .i64 0] ∧ Ls Vq 4 c U' [] vx (A i) ∧ D = [] := by
  have hrc : r * c ≤ 1024 * 1024 := Nat.mul_le_mul hr hc
  have hlt : i * c + c ≤ r * c := by
    have := Nat.mul_le_mul_right c (show i + 1 ≤ r by omega)
    rwa [Nat.add_mul, Nat.one_mul] at this
  refine (Ct.settle (R := fun v U' D => ∃ q cq vs D1 D2, v = .tuple #[.slice q c cq, .int .i64 0] ∧ D = D1 ++ D2 ∧ c ≤ cq ∧ RowO TR 4 D1 q c cq vs ∧ El Vq U' vs (A i)) ?_).mono fun _ _ _ _ ⟨h1, _, _, ⟨q, cq, vs, D1, D2, h2, h3, h4, h5, h6⟩, _, h7, h8⟩ =>
    ⟨_, h2, ⟨q, cq, vs, rfl, h4, h5.sett (h3 ▸ h8).left, h6.up kept_q h7⟩, h1⟩
  obtain ⟨_, rfl, p, cc, ms, rfl, hcc, rm, em⟩ := hm
  refine ct_of_st Tryz.func40 rfl rfl rfl rfl ?_
  repeat (first | refine run_S ?_ | refine w_box (fun _ => ?_) | refine w_al (fun _ => ?_))
  rename_i b2
  refine sl_call rfl rfl rfl rfl rfl rfl (fun _ => mValid_ct (r := (r : Int)) (c := (c : Int)) (n := r * c) (p := p) (cc := cc) (by omega)) ?_
  rintro v U' D hU ⟨rfl, rfl, rfl⟩
  repeat (first | refine run_S ?_ | refine w_box (fun _ => ?_) | refine w_al (fun _ => ?_))
  rw [decide_eq_true (vld_of hr hc)]
  repeat (first | refine run_S ?_ | refine w_box (fun _ => ?_) | refine w_al (fun _ => ?_))
  refine sl_gdec rfl rfl (fun h => absurd h (by omega)) (fun _ => ?_)
  repeat (first | refine run_S ?_ | refine w_box (fun _ => ?_) | refine w_al (fun _ => ?_))
  refine st_dec rfl (fun h => absurd h (by omega)) (fun _ => ?_)
  repeat (first | refine run_S ?_ | refine w_box (fun _ => ?_) | refine w_al (fun _ => ?_))
  refine st_draw [0, 1, 2, 3, 4, 5, 6, 7, 8, 9, 10, 11, 12, 13, 14, 15, 16, 17, 18, 19] sym (by kernel_rfl) ?_
  try refine run_s ?_
  have e1 : (i : Int) * (c : Int) = ((i * c : Nat) : Int) := (Int.natCast_mul i c).symm
  have e2 : IntKind.i64.wrap (((i : Int) + 1) * (c : Int)) = ((i * c + c : Nat) : Int) := by
    rw [show ((i : Int) + 1) * (c : Int) = ((i * c + c : Nat) : Int) by rw [Int.add_mul, Int.one_mul, Int.natCast_add, Int.natCast_mul]]
    exact wrap_in (by omega) (by simp only [kmax]; omega)
  refine sl_y (yl_slice (l := i * c) (h := i * c + c) sym rfl rfl rfl rfl (.inr ⟨_, _, _, rfl, rfl, e1⟩) (.inr ⟨_, _, _, rfl, rfl, e2⟩) (by omega) (by omega)) rfl rfl rfl rfl ?_
  have hpart := rm.part (lo := i * c) (hi := i * c + c) (by omega) hlt hcc
  have e3 : i * c + c - i * c = c := by omega
  rw [e3] at hpart ⊢
  generalize (if cc = i * c then p else p.map (·.add (i * c * 4))) = p3 at hpart ⊢
  have hvec : Vm (Wq b) 1 c U (.agg #[.int .i64 ((1 : Nat) : Int), .int .i64 (c : Int), .slice p3 c (cc - i * c)]) (fun _ j => A i j) := ⟨_, rfl, by
    rw [Nat.one_mul]
    refine ⟨p3, cc - i * c, _, rfl, by omega, hpart, fun k x hk => ?_⟩
    have hkc := hpart.lt hk
    rw [List.getElem?_take, if_pos hkc, List.getElem?_drop] at hk
    have h4 := em _ _ hk
    rw [fl_at hkc] at h4
    unfold fl
    rw [Nat.mod_eq_of_lt hkc]
    exact h4⟩
  try refine run_s ?_
  refine sl_call rfl rfl rfl rfl rfl rfl (fun _ => mload_co (kept_m kept_w _ _ _ _ uc hvec) (by omega) (by omega) (by omega) (by omega)) ?_
  rintro v5 U5 D5 hU5 ⟨⟨Dl, Fl, pl, cl, svl, rfl, rfl, hrl, hgl⟩, -⟩
  have hsl1 := hrl.len.1
  obtain ⟨q, c', rs0, Dr, hv0, hF0, hcc', hRr, er, -, -⟩ := hgl.put (i := 0) (by omega)
  have rl := hrl.at (U := U5) (M := (Dl ++ Fl.flatten) ++ ((b2, .var (.agg #[.int .i64 (r : Int), .int .i64 (c : Int), .slice p (r * c) cc]), TM) :: M)) sb
  have hFl1 : Fl = [Dr] := by
    have h1 : Fl.length = 1 := by rw [← hgl.1]; exact hsl1
    obtain ⟨x, rfl⟩ := List.length_eq_one_iff.1 h1
    simp at hF0
    rw [hF0]
  subst hFl1
  try refine run_s ?_
  refine sl_y (yl_index sym rfl rfl rfl rfl rfl rfl (rl.lt hv0) (rl.get _ _ hv0).1) rfl rfl rfl rfl ?_; refine sl_y (yl_loadR1 sym rfl rfl rfl rfl rl hv0 rfl) rfl rfl rfl rfl ?_
  refine sl_perm (M := (Dl ++ [Dr].flatten) ++ ((b2, .var (.agg #[.int .i64 (r : Int), .int .i64 (c : Int), .slice p (r * c) cc]), TM) :: M)) (M' := Dr ++ (Dl ++ ((b2, .var (.agg #[.int .i64 (r : Int), .int .i64 (c : Int), .slice p (r * c) cc]), TM) :: M))) ?_ pm
  try refine run_s ?_
  exact sk_ret (Dr ++ Dl) sym rfl (.cons (.tmp rfl) (.cons (.tmp rfl) .nil)) uc sb (.inl rfl) ⟨q, c', rs0, Dr, Dl, rfl, rfl, hcc', hRr, er⟩

end Go.Proofs.YtcfgogamamdipaaGreat
