/- Walks of matrix: New, FromRows, Row. -/
import Derived.Test.YtocjmbilepbokaaGreatM36
import Derived.Test.YtocjmbilepbokaaGreatM35
namespace Go.Proofs.YtocjmbilepbokaaGreat
open Go.Hp
variable {G : World} {U U' : UH} {M M' : MH}

abbrev zeroM : Value := .agg #[.int .i64 0, .int .i64 0, .slice none 0 0]

theorem mNew_ct {r c : Nat} (hr : r ≤ 1024) (hc : c ≤ 1024) :
    Ct Tryz.prog 81 [.int .i64 (r : Int), .int .i64 (c : Int)] G U M fun v U' D => ∃ vI, v = .tuple #[vI, .int .i64 0] ∧ Vm Vq r c U' vI (fun _ _ => 0) ∧ D = [] := by
  have hrc : r * c ≤ 1024 * 1024 := Nat.mul_le_mul hr hc
  refine (Ct.settle (R := fun v U' D => ∃ vI, v = .tuple #[vI, .int .i64 0] ∧ Vmo r c U' D vI (fun _ _ => 0) ∧ ULe U U') ?_).mono fun _ _ _ _ ⟨h1, _, _, ⟨vI, h2, ⟨a, h3, h4⟩, _⟩, _, h5, h6⟩ => ⟨vI, h2, ⟨a, h3, h4.sett kept_q h5 h6⟩, h1⟩
  refine ct_of_st Tryz.func81 rfl rfl rfl rfl ?_
  repeat (first | refine run_S ?_ | refine w_box (fun _ => ?_) | refine w_al (fun _ => ?_))
  rename_i b2
  refine sl_call rfl rfl rfl rfl rfl rfl (fun _ => fits_ct (n := (r : Int))) ?_
  rintro v U' D hU ⟨rfl, rfl, rfl⟩
  repeat (first | refine run_S ?_ | refine w_box (fun _ => ?_) | refine w_al (fun _ => ?_))
  rw [decide_eq_true (show 0 ≤ (r : Int) ∧ (r : Int) ≤ 1024 from ⟨by omega, by omega⟩)]
  repeat (first | refine run_S ?_ | refine w_box (fun _ => ?_) | refine w_al (fun _ => ?_))
  refine sl_call rfl rfl rfl rfl rfl rfl (fun _ => fits_ct (n := (c : Int))) ?_
  rintro v U' D hU ⟨rfl, rfl, rfl⟩
  repeat (first | refine run_S ?_ | refine w_box (fun _ => ?_) | refine w_al (fun _ => ?_))
  rw [decide_eq_true (show 0 ≤ (c : Int) ∧ (c : Int) ≤ 1024 from ⟨by omega, by omega⟩)]
  repeat (first | refine run_S ?_ | refine w_box (fun _ => ?_) | refine w_al (fun _ => ?_))
  refine sl_call rfl rfl rfl rfl rfl rfl (fun _ => mblank_co (r := r) (c := c) (by omega) (by omega)) ?_
  rintro v1 U1 D1 hU1 ⟨hgu, -⟩
  repeat (first | refine run_S ?_ | refine w_box (fun _ => ?_) | refine w_al (fun _ => ?_))
  refine sl_call rfl rfl rfl rfl rfl rfl (fun _ => mstore_ct (hgu.w.lg (M := D1 ++ ([] ++ ([] ++ ((b2, .var (.agg #[.int .i64 0, .int .i64 0, .slice none 0 0]), TM) :: M)))) sb |>.up uc sb) (by omega) (by omega) (by omega)) ?_
  rintro v6 U6 D6 hU6 ⟨⟨_, rfl, p6, c6, vs6, rfl, h6, e6⟩, -⟩
  refine sl_perm (M' := (b2, .var (.agg #[.int .i64 0, .int .i64 0, .slice none 0 0]), TM) :: (D6 ++ (D1 ++ M))) ?_ pm
  repeat (first | refine run_S ?_ | refine w_box (fun _ => ?_) | refine w_al (fun _ => ?_))
  exact sk_ret D6 sym rfl (.cons (.cell 0 rfl rfl rfl) (.cons (.tmp rfl) .nil)) uc sb (.inl rfl) ⟨_, rfl, ⟨_, rfl, p6, c6, vs6, rfl, h6, e6⟩, uc⟩

/-- A row of so many fractions. -/
def Rq (b : Nat) (U : UH) (v : Value) (g : Nat × (Nat → Rat)) : Prop := g.1 ≤ 9223372036854775807 ∧ Ls (Wq b) 4 g.1 U [] v g.2
theorem mFromRows_ctM {r b : Nat} {c : Int} {vr : Value} {g : Nat → Nat × (Nat → Rat)} (hr : Ls (Rq b) 1 r U M vr g) (hb : b ≤ 10000000000) (hr1 : r ≤ 9223372036854775807) :
    Ct Tryz.prog 88 [.int .i64 c, vr] G U M fun v U' D => ∃ (vM : Value) (e : Int), v = .tuple #[vM, .int .i64 e] ∧
      (((0 ≤ c ∧ c ≤ 1024) ∧ r ≤ 1024 ∧ ∀ k, k < r → ((g k).1 : Int) = c) → e = 0 ∧ Vm Vq r c.toNat U' vM (fun i j => (g i).2 j)) ∧
      (¬ ((0 ≤ c ∧ c ≤ 1024) ∧ r ≤ 1024 ∧ ∀ k, k < r → ((g k).1 : Int) = c) → e = 4 ∧ vM = .agg #[.int .i64 0, .int .i64 0, .slice none 0 0]) ∧ D = [] := by
  refine (Ct.settle (R := fun v U' D => ∃ (vM : Value) (e : Int), v = .tuple #[vM, .int .i64 e] ∧
      (((0 ≤ c ∧ c ≤ 1024) ∧ r ≤ 1024 ∧ ∀ k, k < r → ((g k).1 : Int) = c) → e = 0 ∧ Vmo r c.toNat U' D vM (fun i j => (g i).2 j)) ∧
      (¬ ((0 ≤ c ∧ c ≤ 1024) ∧ r ≤ 1024 ∧ ∀ k, k < r → ((g k).1 : Int) = c) → e = 4 ∧ vM = .agg #[.int .i64 0, .int .i64 0, .slice none 0 0])) ?_).mono
    fun _ _ _ _ ⟨h1, _, _, ⟨vM, e, h2, h3, h4⟩, _, h5, h6⟩ => ⟨vM, e, h2, fun h => by obtain ⟨h7, a, h8, h9⟩ := h3 h; exact ⟨h7, a, h8, h9.sett kept_q h5 h6⟩, h4, h1⟩
  obtain ⟨pr, cr, rs, rfl, hcr, rr, er⟩ := hr
  refine ct_of_st Tryz.func88 rfl rfl rfl rfl ?_
  repeat (first | refine run_S ?_ | refine w_box (fun _ => ?_) | refine w_al (fun _ => ?_))
  rename_i b4
  refine sl_call rfl rfl rfl rfl rfl rfl (fun _ => fits_ct (n := c)) ?_
  rintro v U' D hU ⟨rfl, rfl, rfl⟩
  repeat (first | refine run_S ?_ | refine w_box (fun _ => ?_) | refine w_al (fun _ => ?_))
  by_cases hc : 0 ≤ c ∧ c ≤ 1024
  · rw [decide_eq_true hc]
    obtain ⟨c, rfl⟩ := Int.eq_ofNat_of_zero_le hc.1
    rw [show ((c : Int)).toNat = c from rfl]
    repeat (first | refine run_S ?_ | refine w_box (fun _ => ?_) | refine w_al (fun _ => ?_))
    refine sl_call rfl rfl rfl rfl rfl rfl (fun _ => fits_ct (n := (r : Int))) ?_
    rintro v U' D hU ⟨rfl, rfl, rfl⟩
    repeat (first | refine run_S ?_ | refine w_box (fun _ => ?_) | refine w_al (fun _ => ?_))
    by_cases hr2 : 0 ≤ (r : Int) ∧ (r : Int) ≤ 1024
    · rw [decide_eq_true hr2]
      have hc2 : c ≤ 1024 := by omega
      have hr3 : r ≤ 1024 := by omega
      have hrc : r * c ≤ 1024 * 1024 := Nat.mul_le_mul hr3 hc2
      repeat (first | refine run_S ?_ | refine w_box (fun _ => ?_) | refine w_al (fun _ => ?_))
      rename_i b6
      refine st_loop (fun z E U' M' => ∃ (i : Nat) (P : Option Addr) (C : Nat) (vs : List Value) (D : MH), i ≤ r ∧ (∀ k, k < i → ((g k).1 : Int) = c) ∧ RowO TR 4 D P (i * c) C vs ∧ El (Wq b) U' vs (fl c fun i j => (g i).2 j) ∧
          E = [(25, .int .i64 (i : Int)), (24, .int .i64 (r : Int)), (23, .slice pr r cr), (0, .int .i64 (c : Int)), (4, .pointer (some ⟨b4, 0, none⟩)), (5, .int .i64 0), (6, .pointer (some ⟨b6, 0, none⟩))] ∧ U = U' ∧
          M' = (b6, .var (.agg #[.int .i64 (r : Int), .int .i64 (c : Int), .slice P (i * c) C]), TM) :: (b4, .var (.agg #[.int .i64 0, .int .i64 0, .slice none 0 0]), TM) :: (D ++ M) ∧ z = r - i) (n0 := r)
        (E0 := [(25, .int .i64 ((0 : Nat) : Int)), (24, .int .i64 (r : Int)), (23, .slice pr r cr), (0, .int .i64 (c : Int)), (4, .pointer (some ⟨b4, 0, none⟩)), (5, .int .i64 0), (6, .pointer (some ⟨b6, 0, none⟩))]) ⟨rfl, rfl, rfl, rfl, rfl, rfl, rfl, trivial⟩
        ⟨0, none, 0, [], [], by omega, (fun k h => absurd h (Nat.not_lt_zero k)), by rw [Nat.zero_mul]; exact RowO.nil, El.nil, rfl, rfl, by rw [Nat.zero_mul]; rfl, rfl⟩ ?_
      rintro z E U1 M' ⟨i, P, C, vs, D, hi, hall, hrow, hel, rfl, rfl, rfl, rfl⟩
      try refine run_s ?_
      refine st_dec rfl (fun h => ?_) (fun h => ?_)
      · have hir : i < r := by omega
        have hlt : i * c + c ≤ r * c := by
          have := Nat.mul_le_mul_right c (show i + 1 ≤ r by omega)
          rwa [Nat.add_mul, Nat.one_mul] at this
        obtain ⟨v1, hv1⟩ := rr.at hir
        obtain ⟨hl1, p2, c2, us, rfl, hc2', rw2, el2⟩ := er _ _ hv1
        try refine run_s ?_
        refine sl_y (yl_index sym rfl rfl rfl rfl rfl rfl ((rr.up uc sb).lt hv1) ((rr.up uc sb).get _ _ hv1).1) rfl rfl rfl rfl ?_; refine sl_y (yl_loadR1 sym rfl rfl rfl rfl (rr.up uc sb) hv1 rfl) rfl rfl rfl rfl ?_
        try refine run_s ?_
        refine st_ne rfl (fun hne => ?_) (fun heq => ?_)
        · repeat (first | refine run_S ?_ | refine w_box (fun _ => ?_) | refine w_al (fun _ => ?_))
          exact sk_ret [] sym rfl (.cons (.cell 1 rfl rfl rfl) (.cons (.tmp rfl) .nil)) uc sb (.inl rfl) ⟨_, 4, rfl, (fun hk => absurd (hk.2.2 i hir) hne), (fun _ => ⟨rfl, rfl⟩)⟩
        · have hl : (g i).1 = c := by omega
          rw [hl] at rw2 hc2' ⊢
          have e2 : i * c + c = (i + 1) * c := by rw [Nat.add_mul, Nat.one_mul]
          try refine run_s ?_
          refine w_app (X := (b6, .var (.agg #[.int .i64 (r : Int), .int .i64 (c : Int), .slice P (i * c) C]), TM) :: (b4, .var (.agg #[.int .i64 0, .int .i64 0, .slice none 0 0]), TM) :: M) hrow pm (rw2.up uc sb) (El.ones el2 fun _ _ h => one_w h) (fun p3 c3 D3 hr3 => ?_)
          refine sl_perm ?_ (perm2 (D := D3))
          try refine run_s ?_
          refine sl_storeF 0 sym rfl rfl rfl rfl rfl rfl rfl rfl rfl rfl rfl ?_
          try refine run_s ?_
          rw [e2] at hr3 ⊢
          exact sk_again (E' := [(25, .int .i64 ((i : Int) + 1)), (24, .int .i64 (r : Int)), (23, .slice pr r cr), (0, .int .i64 (c : Int)), (4, .pointer (some ⟨b4, 0, none⟩)), (5, .int .i64 0), (6, .pointer (some ⟨b6, 0, none⟩))]) (m := r - (i + 1)) ⟨rfl, rfl, rfl, rfl, rfl, rfl, rfl, trivial⟩ (by omega)
            ⟨i + 1, p3, c3, _, D3, by omega, (fun k hk => by
              rcases Nat.lt_or_eq_of_le (Nat.le_of_lt_succ hk) with h1 | h1
              · exact hall k h1
              · rw [h1]; omega), hr3, app_ok hrow.len.1 hel (fun k x hk => by rw [fl_at (rw2.lt hk)]; exact el2 k x hk), rfl, rfl, rfl, rfl⟩
      · have e : i = r := by omega
        subst e
        refine st_perm (M' := D ++ ((b6, .var (.agg #[.int .i64 (i : Int), .int .i64 (c : Int), .slice P (i * c) C]), TM) :: (b4, .var (.agg #[.int .i64 0, .int .i64 0, .slice none 0 0]), TM) :: M)) pm ?_
        refine st_settleAll fun U2 hU2 hs2 => ?_
        have hm : Vm (Wq b) i c U2 (.agg #[.int .i64 (i : Int), .int .i64 (c : Int), .slice P (i * c) C]) (fun i j => (g i).2 j) := ⟨_, rfl, P, C, vs, rfl, hrow.len.2.1, hrow.sett hs2, hel.up kept_w uc⟩
        try refine run_s ?_
        refine sl_call rfl rfl rfl rfl rfl rfl (fun _ => mload_co (kept_m kept_w _ _ _ _ uc hm) (by omega) (by omega) (by omega) (by omega)) ?_
        rintro v3 U3 D3 hU3 ⟨hg3, -⟩
        repeat (first | refine run_S ?_ | refine w_box (fun _ => ?_) | refine w_al (fun _ => ?_))
        refine sl_call rfl rfl rfl rfl rfl rfl (fun _ => mstore_ct (hg3.w.lg (M := D3 ++ ((b6, .var (.agg #[.int .i64 (i : Int), .int .i64 (c : Int), .slice P (i * c) C]), TM) :: (b4, .var (.agg #[.int .i64 0, .int .i64 0, .slice none 0 0]), TM) :: M)) sb |>.up uc sb) (by omega) (by omega) (by omega)) ?_
        rintro v6 U6 D6 hU6 ⟨⟨_, rfl, p6, c6, vs6, rfl, h6, e6⟩, -⟩
        refine sl_perm (M' := (b6, .var (.agg #[.int .i64 (i : Int), .int .i64 (c : Int), .slice P (i * c) C]), TM) :: (b4, .var (.agg #[.int .i64 0, .int .i64 0, .slice none 0 0]), TM) :: (D6 ++ (D3 ++ M))) ?_ pm
        repeat (first | refine run_S ?_ | refine w_box (fun _ => ?_) | refine w_al (fun _ => ?_))
        exact sk_ret D6 sym rfl (.cons (.cell 1 rfl rfl rfl) (.cons (.tmp rfl) .nil)) uc sb (.inl rfl) ⟨_, 0, rfl, (fun _ => ⟨rfl, _, rfl, p6, c6, vs6, rfl, h6, e6⟩), (fun hk => absurd ⟨hc, hr3, hall⟩ hk)⟩
    · rw [decide_eq_false hr2]
      repeat (first | refine run_S ?_ | refine w_box (fun _ => ?_) | refine w_al (fun _ => ?_))
      exact sk_ret [] sym rfl (.cons (.cell 0 rfl rfl rfl) (.cons (.tmp rfl) .nil)) uc sb (.inl rfl) ⟨_, 4, rfl, (fun hk => absurd (show 0 ≤ (r : Int) ∧ (r : Int) ≤ 1024 from ⟨by omega, by have := hk.2.1; omega⟩) hr2), (fun _ => ⟨rfl, rfl⟩)⟩
  · rw [decide_eq_false hc]
    repeat (first | refine run_S ?_ | refine w_box (fun _ => ?_) | refine w_al (fun _ => ?_))
    exact sk_ret [] sym rfl (.cons (.cell 0 rfl rfl rfl) (.cons (.tmp rfl) .nil)) uc sb (.inl rfl) ⟨_, 4, rfl, (fun hk => absurd hk.1 hc), (fun _ => ⟨rfl, rfl⟩)⟩

end Go.Proofs.YtocjmbilepbokaaGreat
