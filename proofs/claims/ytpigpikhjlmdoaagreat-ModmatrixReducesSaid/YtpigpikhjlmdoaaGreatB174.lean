/- Walks of layer 13: matrices of fractions reduced modulo a prime, by the program and by the reference. -/
import Derived.Test.YtpigpikhjlmdoaaGreatB172
import Derived.Test.YtpigpikhjlmdoaaGreatM42
import Derived.Test.YtpigpikhjlmdoaaGreatM22
namespace Go.Proofs.YtpigpikhjlmdoaaGreat
open Go.Hp
open Go.Fq (Pm Fp Prm)
variable {G : World} {U U' : UH} {M : MH}

abbrev zFM : Value := .agg #[.int .i64 0, .int .i64 0, .slice none 0 0]

theorem fReduceM_co {P : Pm} {R C cc : Nat} {pa : Option Addr} {xs : List Value} {f : Nat → Rat} (ra : RowAt U [] 4 pa (R * C) xs) (ea : El (Wq 1) U xs f) (hp : P.1 ≤ 65521) (hR : R ≤ 1024) (hC : C ≤ 1024) :
    Ct Tryz.prog 9 [.agg #[.int .i64 (R : Int), .int .i64 (C : Int), .slice pa (R * C) cc], .int .i64 (P.1 : Int)] G U M fun v U' D => ∃ (vm : Value) (e : Int), v = .tuple #[vm, .int .i64 e] ∧ ULe U U' ∧
      (((∃ i, i < R * C ∧ ¬ Fq.Loc P (f i)) ∧ e = 6 ∧ vm = zFM ∧ D = []) ∨ ((∀ i, i < R * C → Fq.Loc P (f i)) ∧ e = 0 ∧ ∃ a, vm = .agg #[.int .i64 (R : Int), .int .i64 (C : Int), a] ∧ Lo (Vf P) TInt 1 (R * C) U' D a (fun i => Fq.ofQ P (f i)))) := by
  have hp2 := P.2.two
  have hRC : R * C ≤ 1024 * 1024 := Nat.mul_le_mul hR hC
  refine ct_of_st Tryz.func9 rfl rfl rfl rfl ?_
  repeat (first | refine run_S ?_ | refine w_box (fun _ => ?_) | refine w_al (fun _ => ?_))
  rename_i b2 b4
  refine sl_call rfl rfl rfl rfl rfl rfl (fun _ => fprime_ct (z := (P.1 : Int))) ?_
  rintro v U' D hU ⟨rfl, rfl, rfl⟩
  repeat (first | refine run_S ?_ | refine w_box (fun _ => ?_) | refine w_al (fun _ => ?_))
  rw [show modP (P.1 : Int) = true by
    unfold modP
    rw [if_pos (show (P.1 : Int) ≤ 65521 by omega)]
    exact isP_iff.2 ⟨by omega, by rw [Int.toNat_natCast]; exact P.2⟩]
  repeat (first | refine run_S ?_ | refine w_box (fun _ => ?_) | refine w_al (fun _ => ?_))
  refine sl_call rfl rfl rfl rfl rfl rfl (fun _ => mValid_ct (r := (R : Int)) (c := (C : Int)) (p := pa) (n := R * C) (cc := cc) (by omega)) ?_
  rintro v U' D hU ⟨rfl, rfl, rfl⟩
  repeat (first | refine run_S ?_ | refine w_box (fun _ => ?_) | refine w_al (fun _ => ?_))
  rw [decide_eq_true (vld_of hR hC)]
  repeat (first | refine run_S ?_ | refine w_box (fun _ => ?_) | refine w_al (fun _ => ?_))
  rename_i b6
  generalize hN : R * C = N at *
  try refine st_anti (M' := (b6, .var (.agg #[.int .i64 (R : Int), .int .i64 (C : Int), .slice none 0 0]), TF) :: (b4, .var zFM, TF) :: (b2, .var (.agg #[.int .i64 (R : Int), .int .i64 (C : Int), .slice pa N cc]), TM) :: (([]) ++ M)) (ULe.refl _) sbk ?_
  refine st_loop (fun z E U' M' => ∃ (i : Nat) (Q : Option Addr) (K : Nat) (us : List Value) (D : MH), i ≤ N ∧ RowO TInt 1 D Q i K us ∧ El (Vf P) U' us (fun i => Fq.ofQ P (f i)) ∧ (∀ j, j < i → Fq.Loc P (f j)) ∧ E = [(26, .int .i64 (i : Int)), (25, .int .i64 (N : Int)), (24, .slice pa N cc), (6, .pointer (some ⟨b6, 0, none⟩)), (4, .pointer (some ⟨b4, 0, none⟩)), (5, .int .i64 0), (2, .pointer (some ⟨b2, 0, none⟩)), (1, .int .i64 (P.1 : Int))] ∧ ULe U U' ∧ M' = (b6, .var (.agg #[.int .i64 (R : Int), .int .i64 (C : Int), .slice Q i K]), TF) :: (b4, .var zFM, TF) :: (b2, .var (.agg #[.int .i64 (R : Int), .int .i64 (C : Int), .slice pa N cc]), TM) :: (D ++ M) ∧ z = N - i) (n0 := N - 0) (E0 := [(26, .int .i64 ((0 : Nat) : Int)), (25, .int .i64 (N : Int)), (24, .slice pa N cc), (6, .pointer (some ⟨b6, 0, none⟩)), (4, .pointer (some ⟨b4, 0, none⟩)), (5, .int .i64 0), (2, .pointer (some ⟨b2, 0, none⟩)), (1, .int .i64 (P.1 : Int))]) ⟨rfl, rfl, rfl, rfl, rfl, rfl, rfl, rfl, trivial⟩ ⟨0, none, 0, [], [], by omega, RowO.nil, El.nil, (fun j h => absurd h (Nat.not_lt_zero j)), rfl, uc, rfl, rfl⟩ ?_
  rintro z E U1 M' ⟨i, Q, K, us, D, hi, hrow, hel, hloc, rfl, hU1, rfl, rfl⟩
  try refine run_s ?_
  refine st_dec rfl (fun h => ?_) (fun h => ?_)
  · have hin : i < N := by omega
    obtain ⟨v1, hv1⟩ := ra.at hin
    obtain ⟨x1, rfl, hx1, hn1⟩ := ea _ _ hv1
    have sq := hx1.sz hn1 (by decide)
    repeat (first | refine run_S ?_ | refine w_box (fun _ => ?_) | refine w_al (fun _ => ?_))
    refine sl_y (yl_index sym rfl rfl rfl rfl rfl rfl ((ra.up uc sb).lt hv1) ((ra.up uc sb).get _ _ hv1).1) rfl rfl rfl rfl ?_; refine sl_y (yl_loadRs sym rfl rfl rfl rfl rfl (ra.up uc sb) hv1) rfl rfl rfl rfl ?_
    repeat (first | refine run_S ?_ | refine w_box (fun _ => ?_) | refine w_al (fun _ => ?_))
    rename_i b8
    refine sl_call rfl rfl rfl rfl rfl rfl (fun _ => (qNormal_ct (hx1.up uc (List.nil_sublist _)) ⟨by have := hn1.1; omega, by have := hn1.2; omega⟩).settle) ?_
    rintro v Uh2 D hU ⟨rfl, _, _, ⟨xh2, rfl, h2, -⟩, -, -, hs⟩
    replace h2 := h2.sett hs
    clear hs
    repeat (first | refine run_S ?_ | refine w_box (fun _ => ?_) | refine w_al (fun _ => ?_))
    refine sl_call rfl rfl rfl rfl rfl rfl (fun _ => fof_ct (P := P) (h2.2.rep.up uc (List.nil_sublist _)) (h2.2.le sq.2 (by decide)) (by omega)) ?_
    rintro v3 U3 D3 hU3 ⟨rfl, -, rfl⟩
    try rw [List.nil_append]
    repeat (first | refine run_S ?_ | refine w_box (fun _ => ?_) | refine w_al (fun _ => ?_))
    refine st_eq rfl (fun h4 => ?_) (fun h4 => ?_)
    · have hL : ¬ Fq.Loc P (f i) := fun hL => hL (Fq.v_eq_zero.1 (by omega))
      repeat (first | refine run_S ?_ | refine w_box (fun _ => ?_) | refine w_al (fun _ => ?_))
      exact sk_ret [] sym rfl (.cons (.cell 2 rfl rfl rfl) (.cons (.tmp rfl) .nil)) uc sb (.inl rfl) ⟨zFM, 6, rfl, uc, .inl ⟨⟨i, hin, hL⟩, rfl, rfl, rfl⟩⟩
    · have hL : Fq.Loc P (f i) := fun e => h4 (by rw [e, Fq.v_zero]; rfl)
      repeat (first | refine run_S ?_ | refine w_box (fun _ => ?_) | refine w_al (fun _ => ?_))
      refine st_drawM [13, 14, 15] [0, 1, 2, 3, 4, 6, 7, 10, 5, 8, 9, 11, 12, 13, 14, 15] sym (by kernel_rfl) ?_
      repeat (first | refine run_S ?_ | refine w_box (fun _ => ?_) | refine w_al (fun _ => ?_))
      have hb := fp_bd (Fq.of P (f i).num) (Fq.of P ((f i).den : Int))⁻¹ (by omega)
      refine sl_call rfl rfl rfl rfl rfl rfl (fun _ => fof_ct (P := P) (h2.1.rep.up uc (List.nil_sublist _)) (h2.1.le sq.1 (by decide)) (by omega)) ?_
      rintro v5 U5 D5 hU5 ⟨rfl, -, rfl⟩
      try rw [List.nil_append]
      repeat (first | refine run_S ?_ | refine w_box (fun _ => ?_) | refine w_al (fun _ => ?_))
      refine sl_call rfl rfl rfl rfl rfl rfl (fun _ => fInverse_ct (P := P) (a := Fq.of P ((f i).den : Int)) hL (by omega)) ?_
      rintro v U' D hU ⟨rfl, rfl, rfl⟩
      repeat (first | refine run_S ?_ | refine w_box (fun _ => ?_) | refine w_al (fun _ => ?_))
      refine sl_y (yl_fmul (a := Fq.of P (f i).num) (b := (Fq.of P ((f i).den : Int))⁻¹) rfl rfl rfl (by omega)) rfl rfl rfl rfl ?_
      repeat (first | refine run_S ?_ | refine w_box (fun _ => ?_) | refine w_al (fun _ => ?_))
      refine w_push hrow (X := (b8, .var xh2.v, TR) :: (b6, .var (.agg #[.int .i64 (R : Int), .int .i64 (C : Int), .slice Q i K]), TF) :: (b4, .var zFM, TF) :: (b2, .var (.agg #[.int .i64 (R : Int), .int .i64 (C : Int), .slice pa N cc]), TM) :: M) pfs (fun b p2 c2 D2 hr2 => ?_)
      refine sl_perm (M' := (b8, .var xh2.v, TR) :: (b6, .var (.agg #[.int .i64 (R : Int), .int .i64 (C : Int), .slice Q i K]), TF) :: (b4, .var zFM, TF) :: (b2, .var (.agg #[.int .i64 (R : Int), .int .i64 (C : Int), .slice pa N cc]), TM) :: (D2 ++ M)) ?_ pf
      repeat (first | refine run_S ?_ | refine w_box (fun _ => ?_) | refine w_al (fun _ => ?_))
      refine sl_storeF 1 sym rfl rfl rfl rfl rfl rfl rfl rfl rfl rfl rfl ?_
      repeat (first | refine run_S ?_ | refine w_box (fun _ => ?_) | refine w_al (fun _ => ?_))
      refine sk_anti (M' := (b6, .var (.agg #[.int .i64 (R : Int), .int .i64 (C : Int), .slice p2 (i + 1) c2]), TF) :: (b4, .var zFM, TF) :: (b2, .var (.agg #[.int .i64 (R : Int), .int .i64 (C : Int), .slice pa N cc]), TM) :: (D2 ++ M)) (ULe.refl _) sbk ?_
      exact sk_again (E' := [(26, .int .i64 ((i : Int) + 1)), (25, .int .i64 (N : Int)), (24, .slice pa N cc), (6, .pointer (some ⟨b6, 0, none⟩)), (4, .pointer (some ⟨b4, 0, none⟩)), (5, .int .i64 0), (2, .pointer (some ⟨b2, 0, none⟩)), (1, .int .i64 (P.1 : Int))]) (m := N - (i + 1)) ⟨rfl, rfl, rfl, rfl, rfl, rfl, rfl, rfl, trivial⟩ (by omega) ⟨i + 1, p2, c2, _, D2, by omega, hr2, snoc_ok hrow.len.1 (hel.up KeptC.out uc) rfl, (fun j hj => by
        rcases Nat.lt_or_eq_of_le (Nat.le_of_lt_succ hj) with h5 | h5
        · exact hloc j h5
        · rw [h5]; exact hL), rfl, uc, rfl, rfl⟩
  · obtain rfl : i = N := by omega
    repeat (first | refine run_S ?_ | refine w_box (fun _ => ?_) | refine w_al (fun _ => ?_))
    exact sk_ret D sym rfl (.cons (.cell 1 rfl rfl rfl) (.cons (.tmp rfl) .nil)) uc sb (.inl rfl) ⟨_, 0, rfl, uc, .inr ⟨hloc, rfl, _, rfl, Q, K, us, rfl, hrow, hel⟩⟩
theorem fReduceM_ct {P : Pm} {R C cc : Nat} {pa : Option Addr} {xs : List Value} {f : Nat → Rat} (ra : RowAt U [] 4 pa (R * C) xs) (ea : El (Wq 1) U xs f) (hp : P.1 ≤ 65521) (hR : R ≤ 1024) (hC : C ≤ 1024) :
    Ct Tryz.prog 9 [.agg #[.int .i64 (R : Int), .int .i64 (C : Int), .slice pa (R * C) cc], .int .i64 (P.1 : Int)] G U M fun v U' D => ∃ (vm : Value) (e : Int), v = .tuple #[vm, .int .i64 e] ∧ D = [] ∧
      (((∃ i, i < R * C ∧ ¬ Fq.Loc P (f i)) ∧ e = 6 ∧ vm = zFM) ∨ ((∀ i, i < R * C → Fq.Loc P (f i)) ∧ e = 0 ∧ Vmz (Vf P) R C U' vm (fun i j => Fq.ofQ P (f (i * C + j))))) :=
  (fReduceM_co ra ea hp hR hC).settle.mono fun _ _ _ _ ⟨h1, _, _, ⟨vm, e, h2, _, h4⟩, _, h3, hs⟩ => ⟨vm, e, h2, h1, by
    rcases h4 with ⟨k1, k2, k3, -⟩ | ⟨k1, k2, a, k3, k4⟩
    · exact .inl ⟨k1, k2, k3⟩
    · exact .inr ⟨k1, k2, a, k3, (k4.sett KeptC.out h3 hs).congr fun k _ => by show _ = Fq.ofQ P (f (k / C * C + k % C)); rw [Nat.mul_comm, Nat.div_add_mod]⟩⟩

/-- What is refused. -/
theorem fReduceM_np {z r c : Int} {n cc : Nat} {pa : Option Addr} (hP : modP z = false) :
    Ct Tryz.prog 9 [.agg #[.int .i64 r, .int .i64 c, .slice pa n cc], .int .i64 z] G U M fun v U' D => v = .tuple #[zFM, .int .i64 8] ∧ ULe U U' ∧ D = [] := by
  refine ct_of_st Tryz.func9 rfl rfl rfl rfl ?_
  repeat (first | refine run_S ?_ | refine w_box (fun _ => ?_) | refine w_al (fun _ => ?_))
  refine sl_call rfl rfl rfl rfl rfl rfl (fun _ => fprime_ct (z := z)) ?_
  rintro v U' D hU ⟨rfl, rfl, rfl⟩
  repeat (first | refine run_S ?_ | refine w_box (fun _ => ?_) | refine w_al (fun _ => ?_))
  rw [hP]
  repeat (first | refine run_S ?_ | refine w_box (fun _ => ?_) | refine w_al (fun _ => ?_))
  exact sk_ret [] sym rfl (.cons (.cell 0 rfl rfl rfl) (.cons (.tmp rfl) .nil)) uc sb (.inl rfl) ⟨rfl, uc, rfl⟩
theorem fReduceM_nv {z r c : Int} {n cc : Nat} {pa : Option Addr} (hP : modP z = true) (hn : n ≤ 9223372036854775807) (hv : ¬ Vld r c n) :
    Ct Tryz.prog 9 [.agg #[.int .i64 r, .int .i64 c, .slice pa n cc], .int .i64 z] G U M fun v U' D => v = .tuple #[zFM, .int .i64 4] ∧ ULe U U' ∧ D = [] := by
  refine ct_of_st Tryz.func9 rfl rfl rfl rfl ?_
  repeat (first | refine run_S ?_ | refine w_box (fun _ => ?_) | refine w_al (fun _ => ?_))
  refine sl_call rfl rfl rfl rfl rfl rfl (fun _ => fprime_ct (z := z)) ?_
  rintro v U' D hU ⟨rfl, rfl, rfl⟩
  repeat (first | refine run_S ?_ | refine w_box (fun _ => ?_) | refine w_al (fun _ => ?_))
  rw [hP]
  repeat (first | refine run_S ?_ | refine w_box (fun _ => ?_) | refine w_al (fun _ => ?_))
  refine sl_call rfl rfl rfl rfl rfl rfl (fun _ => mValid_ct (r := r) (c := c) (p := pa) (n := n) (cc := cc) hn) ?_
  rintro v U' D hU ⟨rfl, rfl, rfl⟩
  repeat (first | refine run_S ?_ | refine w_box (fun _ => ?_) | refine w_al (fun _ => ?_))
  rw [decide_eq_false hv]
  repeat (first | refine run_S ?_ | refine w_box (fun _ => ?_) | refine w_al (fun _ => ?_))
  exact sk_ret [] sym rfl (.cons (.cell 0 rfl rfl rfl) (.cons (.tmp rfl) .nil)) uc sb (.inl rfl) ⟨rfl, uc, rfl⟩

theorem z13ReduceM_co {P : Pm} {R C N cc : Nat} {pa : Option Addr} {xs : List Value} {f : Nat → Rat} (hN : N ≤ 1048576) (ra : RowAt U [] 4 pa N xs) (ea : El (Wq 1) U xs f) (hp : P.1 ≤ 65521) :
    Ct Tryz.prog 13 [.agg #[.int .i64 (R : Int), .int .i64 (C : Int), .slice pa N cc], .int .i64 (P.1 : Int)] G U M fun v U' D => ∃ (vm : Value) (b : Bool), v = .tuple #[vm, .bool b] ∧ ULe U U' ∧
      (((∃ i, i < N ∧ ¬ Fq.Loc P (f i)) ∧ b = false ∧ vm = zFM ∧ D = []) ∨ ((∀ i, i < N → Fq.Loc P (f i)) ∧ b = true ∧ ∃ a, vm = .agg #[.int .i64 (R : Int), .int .i64 (C : Int), a] ∧ Lo (Vf P) TInt 1 N U' D a (fun i => Fq.ofQ P (f i)))) := by
  refine ct_of_st Tryz.func13 rfl rfl rfl rfl ?_
  repeat (first | refine run_S ?_ | refine w_box (fun _ => ?_) | refine w_al (fun _ => ?_))
  rename_i b2 b4 b6
  try refine st_anti (M' := (b6, .var (.agg #[.int .i64 (R : Int), .int .i64 (C : Int), .slice none 0 0]), TF) :: (b4, .var zFM, TF) :: (b2, .var (.agg #[.int .i64 (R : Int), .int .i64 (C : Int), .slice pa N cc]), TM) :: (([]) ++ M)) (ULe.refl _) sbk ?_
  refine st_loop (fun z E U' M' => ∃ (i : Nat) (Q : Option Addr) (K : Nat) (us : List Value) (D : MH), i ≤ N ∧ RowO TInt 1 D Q i K us ∧ El (Vf P) U' us (fun i => Fq.ofQ P (f i)) ∧ (∀ j, j < i → Fq.Loc P (f j)) ∧ E = [(7, .int .i64 (i : Int)), (6, .pointer (some ⟨b6, 0, none⟩)), (4, .pointer (some ⟨b4, 0, none⟩)), (5, .bool false), (2, .pointer (some ⟨b2, 0, none⟩)), (1, .int .i64 (P.1 : Int))] ∧ ULe U U' ∧ M' = (b6, .var (.agg #[.int .i64 (R : Int), .int .i64 (C : Int), .slice Q i K]), TF) :: (b4, .var zFM, TF) :: (b2, .var (.agg #[.int .i64 (R : Int), .int .i64 (C : Int), .slice pa N cc]), TM) :: (D ++ M) ∧ z = N - i) (n0 := N - 0) (E0 := [(7, .int .i64 ((0 : Nat) : Int)), (6, .pointer (some ⟨b6, 0, none⟩)), (4, .pointer (some ⟨b4, 0, none⟩)), (5, .bool false), (2, .pointer (some ⟨b2, 0, none⟩)), (1, .int .i64 (P.1 : Int))]) ⟨rfl, rfl, rfl, rfl, rfl, rfl, trivial⟩ ⟨0, none, 0, [], [], by omega, RowO.nil, El.nil, (fun j h => absurd h (Nat.not_lt_zero j)), rfl, uc, rfl, rfl⟩ ?_
  rintro z E U1 M' ⟨i, Q, K, us, D, hi, hrow, hel, hloc, rfl, hU1, rfl, rfl⟩
  try refine run_s ?_
  refine st_dec rfl (fun h => ?_) (fun h => ?_)
  · have hin : i < N := by omega
    obtain ⟨v1, hv1⟩ := ra.at hin
    obtain ⟨x1, rfl, hx1, hn1⟩ := ea _ _ hv1
    repeat (first | refine run_S ?_ | refine w_box (fun _ => ?_) | refine w_al (fun _ => ?_))
    refine sl_y (yl_index sym rfl rfl rfl rfl rfl rfl ((ra.up uc sb).lt hv1) ((ra.up uc sb).get _ _ hv1).1) rfl rfl rfl rfl ?_; refine sl_y (yl_loadRs sym rfl rfl rfl rfl rfl (ra.up uc sb) hv1) rfl rfl rfl rfl ?_
    repeat (first | refine run_S ?_ | refine w_box (fun _ => ?_) | refine w_al (fun _ => ?_))
    refine sl_call rfl rfl rfl rfl rfl rfl (fun _ => z13Residue_ct (P := P) (hx1.up uc (List.nil_sublist _)) ⟨Nat.le_trans hn1.1 (by decide), Nat.le_trans hn1.2 (by decide)⟩ (by omega)) ?_
    rintro v3 U3 D3 hU3 ⟨r, b, rfl, hL, hN2, -, rfl⟩
    try rw [List.nil_append]
    repeat (first | refine run_S ?_ | refine w_box (fun _ => ?_) | refine w_al (fun _ => ?_))
    by_cases hl : Fq.Loc P (f i)
    · obtain ⟨rfl, rfl⟩ := hL hl
      repeat (first | refine run_S ?_ | refine w_box (fun _ => ?_) | refine w_al (fun _ => ?_))
      refine w_push hrow (X := (b6, .var (.agg #[.int .i64 (R : Int), .int .i64 (C : Int), .slice Q i K]), TF) :: (b4, .var zFM, TF) :: (b2, .var (.agg #[.int .i64 (R : Int), .int .i64 (C : Int), .slice pa N cc]), TM) :: M) pfs (fun b p2 c2 D2 hr2 => ?_)
      refine sl_perm (M' := (b6, .var (.agg #[.int .i64 (R : Int), .int .i64 (C : Int), .slice Q i K]), TF) :: (b4, .var zFM, TF) :: (b2, .var (.agg #[.int .i64 (R : Int), .int .i64 (C : Int), .slice pa N cc]), TM) :: (D2 ++ M)) ?_ pf
      repeat (first | refine run_S ?_ | refine w_box (fun _ => ?_) | refine w_al (fun _ => ?_))
      refine sl_storeF 0 sym rfl rfl rfl rfl rfl rfl rfl rfl rfl rfl rfl ?_
      repeat (first | refine run_S ?_ | refine w_box (fun _ => ?_) | refine w_al (fun _ => ?_))
      exact sk_again (E' := [(7, .int .i64 ((i : Int) + 1)), (6, .pointer (some ⟨b6, 0, none⟩)), (4, .pointer (some ⟨b4, 0, none⟩)), (5, .bool false), (2, .pointer (some ⟨b2, 0, none⟩)), (1, .int .i64 (P.1 : Int))]) (m := N - (i + 1)) ⟨rfl, rfl, rfl, rfl, rfl, rfl, trivial⟩ (by omega) ⟨i + 1, p2, c2, _, D2, by omega, hr2, snoc_ok hrow.len.1 (hel.up KeptC.out uc) rfl, (fun j hj => by
        rcases Nat.lt_or_eq_of_le (Nat.le_of_lt_succ hj) with h5 | h5
        · exact hloc j h5
        · rw [h5]; exact hl), rfl, uc, rfl, rfl⟩
    · obtain rfl := hN2 hl
      repeat (first | refine run_S ?_ | refine w_box (fun _ => ?_) | refine w_al (fun _ => ?_))
      exact sk_ret [] sym rfl (.cons (.cell 1 rfl rfl rfl) (.cons (.tmp rfl) .nil)) uc sb (.inl rfl) ⟨zFM, false, rfl, uc, .inl ⟨⟨i, hin, hl⟩, rfl, rfl, rfl⟩⟩
  · obtain rfl : i = N := by omega
    repeat (first | refine run_S ?_ | refine w_box (fun _ => ?_) | refine w_al (fun _ => ?_))
    exact sk_ret D sym rfl (.cons (.cell 1 rfl rfl rfl) (.cons (.tmp rfl) .nil)) uc sb (.inl rfl) ⟨_, true, rfl, uc, .inr ⟨hloc, rfl, _, rfl, Q, K, us, rfl, hrow, hel⟩⟩
theorem z13ReduceM_ct {P : Pm} {R C cc : Nat} {pa : Option Addr} {xs : List Value} {f : Nat → Rat} (hRC : R * C ≤ 1048576) (ra : RowAt U [] 4 pa (R * C) xs) (ea : El (Wq 1) U xs f) (hp : P.1 ≤ 65521) :
    Ct Tryz.prog 13 [.agg #[.int .i64 (R : Int), .int .i64 (C : Int), .slice pa (R * C) cc], .int .i64 (P.1 : Int)] G U M fun v U' D => ∃ (vm : Value) (b : Bool), v = .tuple #[vm, .bool b] ∧ D = [] ∧
      (((∃ i, i < R * C ∧ ¬ Fq.Loc P (f i)) ∧ b = false ∧ vm = zFM) ∨ ((∀ i, i < R * C → Fq.Loc P (f i)) ∧ b = true ∧ Vmz (Vf P) R C U' vm (fun i j => Fq.ofQ P (f (i * C + j))))) :=
  (z13ReduceM_co hRC ra ea hp).settle.mono fun _ _ _ _ ⟨h1, _, _, ⟨vm, e, h2, _, h4⟩, _, h3, hs⟩ => ⟨vm, e, h2, h1, by
    rcases h4 with ⟨k1, k2, k3, -⟩ | ⟨k1, k2, a, k3, k4⟩
    · exact .inl ⟨k1, k2, k3⟩
    · exact .inr ⟨k1, k2, a, k3, (k4.sett KeptC.out h3 hs).congr fun k _ => by show _ = Fq.ofQ P (f (k / C * C + k % C)); rw [Nat.mul_comm, Nat.div_add_mod]⟩⟩

/-- Matrices that are zero values. -/
theorem none13_ct {p : Option Addr} {n c : Nat} {vs : List Value} (ra : RowAt U M 3 p n vs) (hz : ∀ v ∈ vs, v = zFM) (hn : n ≤ 1000) :
    Ct Tryz.prog 11 [.slice p n c] G U M fun v U' D => v = .bool true ∧ U = U' ∧ D = [] := by
  refine ct_of_st Tryz.func11 rfl rfl rfl rfl ?_
  repeat (first | refine run_S ?_ | refine w_box (fun _ => ?_) | refine w_al (fun _ => ?_))
  try refine st_anti (M' := M) (ULe.refl _) sbk ?_
  refine st_loop (fun z E U' M' => ∃ (i : Nat), i ≤ n ∧ U = U' ∧ E = [(3, .int .i64 (i : Int)), (0, .slice p n c)] ∧ ULe U U' ∧ M' = M ∧ z = n - i) (n0 := n - 0) (E0 := [(3, .int .i64 ((0 : Nat) : Int)), (0, .slice p n c)]) ⟨rfl, rfl, trivial⟩ ⟨0, by omega, rfl, rfl, uc, rfl, rfl⟩ ?_
  rintro z E U1 M' ⟨i, hi, rfl, rfl, hU1, rfl, rfl⟩
  try refine run_s ?_
  refine st_dec rfl (fun h => ?_) (fun h => ?_)
  · have hin : i < n := by omega
    obtain ⟨v1, hv1⟩ := ra.at hin
    obtain rfl := hz _ (List.mem_of_getElem? hv1)
    have hp := (ra.get _ _ hv1).1
    repeat (first | refine run_S ?_ | refine w_box (fun _ => ?_) | refine w_al (fun _ => ?_))
    refine w_addr (j := i) hin hp ?_
    repeat (first | refine run_S ?_ | refine w_box (fun _ => ?_) | refine w_al (fun _ => ?_))
    refine sl_y (yl_loadRc (j := 0) (u := .int .i64 0) sym rfl rfl (by rw [elt_add]) rfl rfl ra hv1 rfl) rfl rfl rfl rfl ?_
    repeat (first | refine run_S ?_ | refine w_box (fun _ => ?_) | refine w_al (fun _ => ?_))
    refine sl_gdec rfl rfl (fun h => absurd rfl h) (fun _ => ?_)
    repeat (first | refine run_S ?_ | refine w_box (fun _ => ?_) | refine w_al (fun _ => ?_))
    refine w_addr (j := i) hin hp ?_
    repeat (first | refine run_S ?_ | refine w_box (fun _ => ?_) | refine w_al (fun _ => ?_))
    refine sl_y (yl_loadRc (j := 1) (u := .int .i64 0) sym rfl rfl (by rw [elt_add]) rfl rfl ra hv1 rfl) rfl rfl rfl rfl ?_
    repeat (first | refine run_S ?_ | refine w_box (fun _ => ?_) | refine w_al (fun _ => ?_))
    refine sl_gdec rfl rfl (fun h => absurd rfl h) (fun _ => ?_)
    repeat (first | refine run_S ?_ | refine w_box (fun _ => ?_) | refine w_al (fun _ => ?_))
    refine w_addr (j := i) hin hp ?_
    repeat (first | refine run_S ?_ | refine w_box (fun _ => ?_) | refine w_al (fun _ => ?_))
    refine sl_y (yl_loadRc (j := 2) (u := .slice none 0 0) sym rfl rfl (by rw [elt_add]) rfl rfl ra hv1 rfl) rfl rfl rfl rfl ?_
    repeat (first | refine run_S ?_ | refine w_box (fun _ => ?_) | refine w_al (fun _ => ?_))
    refine st_ne rfl (fun h => absurd rfl h) (fun _ => ?_)
    repeat (first | refine run_S ?_ | refine w_box (fun _ => ?_) | refine w_al (fun _ => ?_))
    exact sk_again (E' := [(3, .int .i64 ((i : Int) + 1)), (0, .slice p n c)]) (m := n - (i + 1)) ⟨rfl, rfl, trivial⟩ (by omega) ⟨i + 1, by omega, rfl, rfl, uc, rfl, rfl⟩
  · repeat (first | refine run_S ?_ | refine w_box (fun _ => ?_) | refine w_al (fun _ => ?_))
    exact sk_ret [] sym rfl (.cons (.tmp rfl) .nil) uc sb (.inl rfl) ⟨rfl, rfl, rfl⟩
end Go.Proofs.YtpigpikhjlmdoaaGreat
