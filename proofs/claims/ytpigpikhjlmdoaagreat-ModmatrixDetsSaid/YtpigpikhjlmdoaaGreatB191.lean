/- Walks of the references of layers 12 and 13: rows of integers, Hadamard's bound, determinants. -/
import Derived.Test.YtpigpikhjlmdoaaGreatB190
import Derived.Test.YtpigpikhjlmdoaaGreatM9
import Derived.Test.YtpigpikhjlmdoaaGreatM15
import Derived.Test.YtpigpikhjlmdoaaGreatB92
import Derived.Test.YtpigpikhjlmdoaaGreatM40
namespace Go.Proofs.YtpigpikhjlmdoaaGreat
open Go.Hp
variable {G : World} {U U' : UH} {M : MH}

/-- An integer in normal form. -/
def Xn (U : UH) (v : Value) (z : Int) : Prop := ∃ x : IV, v = x.v ∧ x.nrm U [] z
theorem kept_xn : Kept Xn := fun _ _ _ _ hU ⟨x, h1, h2⟩ => ⟨x, h1, h2.up hU (List.Sublist.refl _)⟩
/-- A row of such integers. -/
def Vri (n : Nat) (U : UH) (v : Value) (g : Nat → Int) : Prop := Ls Xn 2 n U [] v g
theorem kept_vri {n : Nat} : Kept (Vri n) := fun _ _ _ _ hU h => h.up kept_xn hU (List.Sublist.refl _)

theorem sk_setD {K : Kont} {N : Nat} {e : Exit} {E : Env} {D M : MH} (h : ∀ U', ULe U U' → Sett U U' D → SK K N G e E U' M) : SK K N G e E U (D ++ M) :=
  ⟨fun a w ha hw => by
    obtain ⟨U', h1, h2, h3⟩ := mem_settleAll hw
    exact (h U' h1 h3).run a w ha h2⟩

theorem z12Rows_ct {r c cc s : Nat} {p : Option Addr} {vs : List Value} {f : Nat → Int} (rw1 : RowAt U [] 2 p (r * c) vs) (el : El (Xw s) U vs f) (hs : s ≤ 1000) (hr : r ≤ 1000) (hc : c ≤ 1000) :
    Ct Tryz.prog 36 [.agg #[.int .i64 (r : Int), .int .i64 (c : Int), .slice p (r * c) cc]] G U M fun v U' D => Ls (Vri c) 1 r U' [] v (fun i j => f (i * c + j)) ∧ D = [] := by
  refine Ct.setl (e := 61) ?_ kept_vri
  have hrc : r * c ≤ 1000 * 1000 := Nat.mul_le_mul hr hc
  refine ct_of_st Tryz.func36 rfl rfl rfl rfl ?_
  repeat (first | refine run_S ?_ | refine w_box (fun _ => ?_) | refine w_al (fun _ => ?_))
  rename_i b1
  try refine st_anti (M' := (b1, .var (.agg #[.int .i64 (r : Int), .int .i64 (c : Int), .slice p (r * c) cc]), 63) :: (([]) ++ M)) (ULe.refl _) sbk ?_
  refine st_loop (fun z E U' M' => ∃ (i : Nat) (Q : Option Addr) (C : Nat) (svs : List Value) (Do : MH), i ≤ r ∧ RowO 61 1 Do Q i C svs ∧ El (Vri c) U' svs (fun i j => f (i * c + j)) ∧ E = [(4, .int .i64 (i : Int)), (3, .slice Q i C), (1, .pointer (some ⟨b1, 0, none⟩))] ∧ ULe U U' ∧ M' = (b1, .var (.agg #[.int .i64 (r : Int), .int .i64 (c : Int), .slice p (r * c) cc]), 63) :: (Do ++ M) ∧ z = r - i) (n0 := r - 0) (E0 := [(4, .int .i64 ((0 : Nat) : Int)), (3, .slice none 0 0), (1, .pointer (some ⟨b1, 0, none⟩))]) ⟨rfl, rfl, rfl, trivial⟩ ⟨0, none, 0, [], [], by omega, RowO.nil, El.nil, rfl, uc, rfl, rfl⟩ ?_
  rintro z E U1 M' ⟨i, Q, C, svs, Do, hi, hrow, hel, rfl, hU1, rfl, rfl⟩
  try refine run_s ?_
  refine st_dec rfl (fun h => ?_) (fun h => ?_)
  · have hir : i < r := by omega
    have hlt2 : i * c + c ≤ r * c := by
      have := Nat.mul_le_mul_right c (show i + 1 ≤ r by omega)
      rwa [Nat.add_mul, Nat.one_mul] at this
    try refine run_s ?_
    try refine st_anti (M' := (b1, .var (.agg #[.int .i64 (r : Int), .int .i64 (c : Int), .slice p (r * c) cc]), 63) :: (([]) ++ (Do ++ M))) (ULe.refl _) sbk ?_
    refine st_loop (fun z E U' M' => ∃ (j : Nat) (q : Option Addr) (c' : Nat) (us : List Value) (Dr : MH), j ≤ c ∧ RowO 67 2 Dr q j c' us ∧ El Xn U' us (fun j => f (i * c + j)) ∧ E = [(6, .int .i64 (j : Int)), (5, .slice q j c'), (4, .int .i64 (i : Int)), (3, .slice Q i C), (1, .pointer (some ⟨b1, 0, none⟩))] ∧ ULe U1 U' ∧ M' = (b1, .var (.agg #[.int .i64 (r : Int), .int .i64 (c : Int), .slice p (r * c) cc]), 63) :: (Dr ++ (Do ++ M)) ∧ z = c - j) (n0 := c - 0) (E0 := [(6, .int .i64 ((0 : Nat) : Int)), (5, .slice none 0 0), (4, .int .i64 (i : Int)), (3, .slice Q i C), (1, .pointer (some ⟨b1, 0, none⟩))]) ⟨rfl, rfl, rfl, rfl, rfl, trivial⟩ ⟨0, none, 0, [], [], by omega, RowO.nil, El.nil, rfl, uc, rfl, rfl⟩ ?_
    rintro z E U2 M' ⟨j, q, c', us, Dr, hj, hrow2, hel2, rfl, hU2, rfl, rfl⟩
    try refine run_s ?_
    refine st_dec rfl (fun h2 => ?_) (fun h2 => ?_)
    · have hjc : j < c := by omega
      have hlt := ij_lt hir hjc
      obtain ⟨v1, hv1⟩ := rw1.at hlt
      obtain ⟨x1, rfl, hx1, hn1⟩ := el _ _ hv1
      repeat (first | refine run_S ?_ | refine w_box (fun _ => ?_) | refine w_al (fun _ => ?_))
      refine w_addr (j := i * c + j) hlt (rw1.get _ _ hv1).1 ?_ (hj := by omega)
      refine sl_y (yl_loadRs sym rfl rfl rfl rfl rfl (rw1.up uc (List.nil_sublist _)) hv1) rfl rfl rfl rfl ?_
      repeat (first | refine run_S ?_ | refine w_box (fun _ => ?_) | refine w_al (fun _ => ?_))
      refine sl_call rfl rfl rfl rfl rfl rfl (fun _ => (Norm_ct (hx1.up uc (List.nil_sublist _)) (by omega)).settle) ?_
      rintro v Uh3 D hU ⟨rfl, _, _, ⟨xh3, rfl, h3, -⟩, -, -, hs⟩
      replace h3 := h3.sett hs
      clear hs
      repeat (first | refine run_S ?_ | refine w_box (fun _ => ?_) | refine w_al (fun _ => ?_))
      refine w_push hrow2 (X := (b1, .var (.agg #[.int .i64 (r : Int), .int .i64 (c : Int), .slice p (r * c) cc]), 63) :: (Do ++ M)) pfs (fun b q2 c2 D2 hr2 => ?_)
      refine sl_perm (M' := (b1, .var (.agg #[.int .i64 (r : Int), .int .i64 (c : Int), .slice p (r * c) cc]), 63) :: (D2 ++ (Do ++ M))) ?_ pf
      try refine run_s ?_
      exact sk_again (E' := [(6, .int .i64 ((j : Int) + 1)), (5, .slice q2 (j + 1) c2), (4, .int .i64 (i : Int)), (3, .slice Q i C), (1, .pointer (some ⟨b1, 0, none⟩))]) (m := c - (j + 1)) ⟨rfl, rfl, rfl, rfl, rfl, trivial⟩ (by omega) ⟨j + 1, q2, c2, _, D2, by omega, hr2, snoc_ok hrow2.len.1 (hel2.up kept_xn uc) ⟨xh3, rfl, h3⟩, rfl, uc, rfl, rfl⟩
    · obtain rfl : c = j := by omega
      try refine run_s ?_
      refine w_push hrow (X := (b1, .var (.agg #[.int .i64 (r : Int), .int .i64 (c : Int), .slice p (r * c) cc]), 63) :: (Dr ++ M)) pfs (fun b2 P2 C2 D2 hr2 => ?_)
      try refine run_s ?_
      refine sk_perm (M' := Dr ++ ((b1, .var (.agg #[.int .i64 (r : Int), .int .i64 (c : Int), .slice p (r * c) cc]), 63) :: (D2 ++ M))) pf ?_
      refine sk_setD fun U4 hU4 hs4 => ?_
      exact sk_again (E' := [(4, .int .i64 ((i : Int) + 1)), (3, .slice P2 (i + 1) C2), (1, .pointer (some ⟨b1, 0, none⟩))]) (m := r - (i + 1)) ⟨rfl, rfl, rfl, trivial⟩ (by omega) ⟨i + 1, P2, C2, _, D2, by omega, hr2, snoc_ok hrow.len.1 (hel.up kept_vri uc) ⟨q, c', us, rfl, hrow2.len.2.1, hrow2.sett hs4, hel2.up kept_xn uc⟩, rfl, uc, rfl, rfl⟩
  · obtain rfl : i = r := by omega
    try refine run_s ?_
    exact sk_ret Do sym rfl (.cons (.tmp rfl) .nil) uc sb (.inl rfl) ⟨⟨Q, C, svs, rfl, hrow, hel⟩, uc⟩

theorem rRoot_st {x : IV} {z : Int} (hx : x.rep U M z) (hn : x.n ≤ 1000) (h0 : 0 ≤ z) :
    Ct Tryz.prog 82 [x.v] G U M fun v U' D => ∃ r : IV, v = r.v ∧ r.nrm U' [] ((isq z.natAbs : Nat) : Int) ∧ D = [] :=
  (rRoot_ct (A := z.natAbs) (by rwa [show ((z.natAbs : Nat) : Int) = z by omega]) hn).settle.mono fun _ _ _ _ ⟨h1, _, _, ⟨r, R, e, h2, g1, g2, _⟩, _, _, hs⟩ => ⟨r, e, by rw [← isq_at g1 g2]; exact h2.sett hs, h1⟩

theorem z13Hadamard_ct {n : Nat} {vr : Value} {f : Nat → Int} (hv : Ls (Vri n) 1 n U [] vr (fun i j => f (i * n + j))) (hsz2 : ∀ i j, i < n → j < n → Sz (f (i * n + j)) 2) (hn : n ≤ 6) :
    Ct Tryz.prog 35 [.int .i64 (n : Int), vr] G U M fun v U' D => ∃ x : IV, v = x.v ∧ x.nrm U' [] (La.pz n (hrow n f)) ∧ D = [] := by
  have s1 : Sz (1 : Int) 1 := by unfold Sz; decide
  obtain ⟨pr, cr, rs, rfl, hcr, rr, er⟩ := hv
  refine ct_of_st Tryz.func35 rfl rfl rfl rfl ?_
  repeat (first | refine run_S ?_ | refine w_box (fun _ => ?_) | refine w_al (fun _ => ?_))
  rename_i b4
  refine sl_call rfl rfl rfl rfl rfl rfl (fun _ => (rOf_ct (z := 1) (by decide) (by decide)).settle) ?_
  rintro v Uh3 D hU ⟨rfl, _, _, ⟨xh3, rfl, h3, -⟩, -, -, hs⟩
  replace h3 := h3.sett hs
  clear hs
  repeat (first | refine run_S ?_ | refine w_box (fun _ => ?_) | refine w_al (fun _ => ?_))
  rename_i b5
  try refine st_anti (M' := (b5, .var xh3.v, 67) :: (b4, .var zeroIV.v, 67) :: M) (ULe.refl _) sbk ?_
  refine st_loop (fun z E U' M' => ∃ (i : Nat) (xo : IV), i ≤ n ∧ xo.nrm U' [] (La.pz i (hrow n f)) ∧ E = [(6, .int .i64 (i : Int)), (5, .pointer (some ⟨b5, 0, none⟩)), (4, .pointer (some ⟨b4, 0, none⟩)), (0, .int .i64 (n : Int)), (1, .slice pr n cr)] ∧ ULe U U' ∧ M' = (b5, .var xo.v, 67) :: (b4, .var zeroIV.v, 67) :: M ∧ z = n - i) (n0 := n - 0) (E0 := [(6, .int .i64 ((0 : Nat) : Int)), (5, .pointer (some ⟨b5, 0, none⟩)), (4, .pointer (some ⟨b4, 0, none⟩)), (0, .int .i64 (n : Int)), (1, .slice pr n cr)]) ⟨rfl, rfl, rfl, rfl, rfl, trivial⟩ ⟨0, xh3, by omega, h3, rfl, uc, rfl, rfl⟩ ?_
  rintro z E U1 M' ⟨i, xo, hi, hxo, rfl, hU1, rfl, rfl⟩
  try refine run_s ?_
  refine st_dec rfl (fun h => ?_) (fun h => ?_)
  · have hin : i < n := by omega
    obtain ⟨v1, hv1⟩ := rr.at hin
    obtain ⟨p3, c3, us3, rfl, hc3, r3, e3⟩ := er _ _ hv1
    repeat (first | refine run_S ?_ | refine w_box (fun _ => ?_) | refine w_al (fun _ => ?_))
    refine sl_call rfl rfl rfl rfl rfl rfl (fun _ => (rOf_ct (z := 0) (by decide) (by decide)).settle) ?_
    rintro v Uh7 D hU ⟨rfl, _, _, ⟨xh7, rfl, h7, -⟩, -, -, hs⟩
    replace h7 := h7.sett hs
    clear hs
    repeat (first | refine run_S ?_ | refine w_box (fun _ => ?_) | refine w_al (fun _ => ?_))
    rename_i b7
    repeat (first | refine run_S ?_ | refine w_box (fun _ => ?_) | refine w_al (fun _ => ?_))
    try refine st_anti (M' := (b7, .var xh7.v, 67) :: (b5, .var xo.v, 67) :: (b4, .var zeroIV.v, 67) :: M) (ULe.refl _) sbk ?_
    refine st_loop (fun z E U' M' => ∃ (j : Nat) (xs : IV), j ≤ n ∧ xs.nrm U' [] (Lr.sm j fun k => f (i * n + k) * f (i * n + k)) ∧ E = [(8, .int .i64 (j : Int)), (7, .pointer (some ⟨b7, 0, none⟩)), (6, .int .i64 (i : Int)), (5, .pointer (some ⟨b5, 0, none⟩)), (4, .pointer (some ⟨b4, 0, none⟩)), (0, .int .i64 (n : Int)), (1, .slice pr n cr)] ∧ ULe Uh7 U' ∧ M' = (b7, .var xs.v, 67) :: (b5, .var xo.v, 67) :: (b4, .var zeroIV.v, 67) :: M ∧ z = n - j) (n0 := n - 0) (E0 := [(8, .int .i64 ((0 : Nat) : Int)), (7, .pointer (some ⟨b7, 0, none⟩)), (6, .int .i64 (i : Int)), (5, .pointer (some ⟨b5, 0, none⟩)), (4, .pointer (some ⟨b4, 0, none⟩)), (0, .int .i64 (n : Int)), (1, .slice pr n cr)]) ⟨rfl, rfl, rfl, rfl, rfl, rfl, rfl, trivial⟩ ⟨0, xh7, by omega, h7, rfl, uc, rfl, rfl⟩ ?_
    rintro z E U2 M' ⟨j, xs, hj, hxs, rfl, hU2, rfl, rfl⟩
    try refine run_s ?_
    refine st_dec rfl (fun h2 => ?_) (fun h2 => ?_)
    · have hjn : j < n := by omega
      obtain ⟨v2, hv2⟩ := r3.at hjn
      obtain ⟨x1, rfl, hx1⟩ := e3 _ _ hv2
      have hp1 := (r3.get _ _ hv2).1
      have ss : Sz (Lr.sm j fun k => f (i * n + k) * f (i * n + k)) (2 + 2 + j) := sm_sz fun k hk => (hsz2 i k hin (by omega)).mul (hsz2 i k hin (by omega))
      have s4 := (hsz2 i j hin hjn).mul (hsz2 i j hin hjn)
      have sx := hsz2 i j hin hjn
      repeat (first | refine run_S ?_ | refine w_box (fun _ => ?_) | refine w_al (fun _ => ?_))
      refine st_drawM [16, 17] [0, 1, 2, 3, 4, 5, 6, 7, 8, 9, 10, 11, 12, 13, 14, 15, 16, 17] sym (by kernel_rfl) ?_
      repeat (first | refine run_S ?_ | refine w_box (fun _ => ?_) | refine w_al (fun _ => ?_))
      refine sl_y (yl_index sym rfl rfl rfl rfl rfl rfl ((rr.up uc sb).lt hv1) ((rr.up uc sb).get _ _ hv1).1) rfl rfl rfl rfl ?_; refine sl_y (yl_loadR1 sym rfl rfl rfl rfl (rr.up uc sb) hv1 rfl) rfl rfl rfl rfl ?_
      repeat (first | refine run_S ?_ | refine w_box (fun _ => ?_) | refine w_al (fun _ => ?_))
      refine w_addr (j := j) hjn hp1 ?_
      refine sl_y (yl_loadRs sym rfl rfl rfl rfl rfl (r3.up uc (List.nil_sublist _)) hv2) rfl rfl rfl rfl ?_
      repeat (first | refine run_S ?_ | refine w_box (fun _ => ?_) | refine w_al (fun _ => ?_))
      refine sl_y (yl_index sym rfl rfl rfl rfl rfl rfl ((rr.up uc sb).lt hv1) ((rr.up uc sb).get _ _ hv1).1) rfl rfl rfl rfl ?_; refine sl_y (yl_loadR1 sym rfl rfl rfl rfl (rr.up uc sb) hv1 rfl) rfl rfl rfl rfl ?_
      repeat (first | refine run_S ?_ | refine w_box (fun _ => ?_) | refine w_al (fun _ => ?_))
      refine w_addr (j := j) hjn hp1 ?_
      refine sl_y (yl_loadRs sym rfl rfl rfl rfl rfl (r3.up uc (List.nil_sublist _)) hv2) rfl rfl rfl rfl ?_
      repeat (first | refine run_S ?_ | refine w_box (fun _ => ?_) | refine w_al (fun _ => ?_))
      refine sl_call rfl rfl rfl rfl rfl rfl (fun _ => (rMul_ct (hx1.rep.up uc (List.nil_sublist _)) (hx1.le sx (by omega)) (hx1.rep.up uc (List.nil_sublist _)) (hx1.le sx (by omega))).settle) ?_
      rintro v Uh10 D hU ⟨rfl, _, _, ⟨xh10, rfl, h10, -⟩, -, -, hs⟩
      replace h10 := h10.sett hs
      clear hs
      repeat (first | refine run_S ?_ | refine w_box (fun _ => ?_) | refine w_al (fun _ => ?_))
      refine sl_call rfl rfl rfl rfl rfl rfl (fun _ => (rAdd_ct (hxs.rep.up uc (List.nil_sublist _)) (hxs.le ss (by omega)) (h10.rep.up uc (List.nil_sublist _)) (h10.le s4 (by omega))).settle) ?_
      rintro v Uh11 D hU ⟨rfl, _, _, ⟨xh11, rfl, h11, -⟩, -, -, hs⟩
      replace h11 := h11.sett hs
      clear hs
      repeat (first | refine run_S ?_ | refine w_box (fun _ => ?_) | refine w_al (fun _ => ?_))
      repeat (first | refine run_S ?_ | refine w_box (fun _ => ?_) | refine w_al (fun _ => ?_))
      exact sk_again (E' := [(8, .int .i64 ((j : Int) + 1)), (7, .pointer (some ⟨b7, 0, none⟩)), (6, .int .i64 (i : Int)), (5, .pointer (some ⟨b5, 0, none⟩)), (4, .pointer (some ⟨b4, 0, none⟩)), (0, .int .i64 (n : Int)), (1, .slice pr n cr)]) (m := n - (j + 1)) ⟨rfl, rfl, rfl, rfl, rfl, rfl, rfl, trivial⟩ (by omega) ⟨j + 1, xh11, by omega, h11, rfl, uc, rfl, rfl⟩
    · obtain rfl : n = j := by omega
      have ss : Sz (Lr.sm n fun k => f (i * n + k) * f (i * n + k)) (2 + 2 + n) := sm_sz fun k hk => (hsz2 i k hin hk).mul (hsz2 i k hin hk)
      have s0 : 0 ≤ Lr.sm n fun k => f (i * n + k) * f (i * n + k) := sm_nn fun k _ => sq_nn _
      have so : Sz (La.pz i (hrow n f)) (12 * i + 1) := pz_sz fun k hk => (hrow_sz (by decide) fun l hl => hsz2 k l (by omega) hl).mono (by omega)
      have sr := hrow_sz (s := 2) (i := i) (f := f) (n := n) (by decide) fun l hl => hsz2 i l hin hl
      have s5 : Sz ((isq (Lr.sm n fun k => f (i * n + k) * f (i * n + k)).natAbs : Nat) : Int) (2 + 2 + n) := sz_le ss (by have := @isq_le (Lr.sm n fun k => f (i * n + k) * f (i * n + k)).natAbs; omega)
      repeat (first | refine run_S ?_ | refine w_box (fun _ => ?_) | refine w_al (fun _ => ?_))
      refine st_drawM [5, 6] [0, 1, 2, 3, 4, 5, 6] sym (by kernel_rfl) ?_
      repeat (first | refine run_S ?_ | refine w_box (fun _ => ?_) | refine w_al (fun _ => ?_))
      refine sl_call rfl rfl rfl rfl rfl rfl (fun _ => rRoot_st (hxs.rep.up uc (List.nil_sublist _)) (hxs.le ss (by omega)) s0) ?_
      rintro v Uhr D hU ⟨xhr, rfl, hr, rfl⟩
      repeat (first | refine run_S ?_ | refine w_box (fun _ => ?_) | refine w_al (fun _ => ?_))
      refine sl_call rfl rfl rfl rfl rfl rfl (fun _ => (rOf_ct (z := 1) (by decide) (by decide)).settle) ?_
      rintro v Uh12 D hU ⟨rfl, _, _, ⟨xh12, rfl, h12, -⟩, -, -, hs⟩
      replace h12 := h12.sett hs
      clear hs
      repeat (first | refine run_S ?_ | refine w_box (fun _ => ?_) | refine w_al (fun _ => ?_))
      refine sl_call rfl rfl rfl rfl rfl rfl (fun _ => (rAdd_ct (hr.rep.up uc (List.nil_sublist _)) (hr.le s5 (by omega)) (h12.rep.up uc (List.nil_sublist _)) (h12.le s1 (by omega))).settle) ?_
      rintro v Uh13 D hU ⟨rfl, _, _, ⟨xh13, rfl, h13, -⟩, -, -, hs⟩
      replace h13 := h13.sett hs
      clear hs
      repeat (first | refine run_S ?_ | refine w_box (fun _ => ?_) | refine w_al (fun _ => ?_))
      refine sl_call rfl rfl rfl rfl rfl rfl (fun _ => (rMul_ct (hxo.rep.up uc (List.nil_sublist _)) (hxo.le so (by omega)) (h13.rep.up uc (List.nil_sublist _)) (h13.le sr (by omega))).settle) ?_
      rintro v Uh14 D hU ⟨rfl, _, _, ⟨xh14, rfl, h14, -⟩, -, -, hs⟩
      replace h14 := h14.sett hs
      clear hs
      repeat (first | refine run_S ?_ | refine w_box (fun _ => ?_) | refine w_al (fun _ => ?_))
      repeat (first | refine run_S ?_ | refine w_box (fun _ => ?_) | refine w_al (fun _ => ?_))
      refine sk_anti (M' := (b5, .var xh14.v, 67) :: (b4, .var zeroIV.v, 67) :: M) (ULe.refl _) sbk ?_
      exact sk_again (E' := [(6, .int .i64 ((i : Int) + 1)), (5, .pointer (some ⟨b5, 0, none⟩)), (4, .pointer (some ⟨b4, 0, none⟩)), (0, .int .i64 (n : Int)), (1, .slice pr n cr)]) (m := n - (i + 1)) ⟨rfl, rfl, rfl, rfl, rfl, trivial⟩ (by omega) ⟨i + 1, xh14, by omega, h14, rfl, uc, rfl, rfl⟩
  · obtain rfl : n = i := by omega
    repeat (first | refine run_S ?_ | refine w_box (fun _ => ?_) | refine w_al (fun _ => ?_))
    exact sk_ret [] sym rfl (.cons (.cell 1 rfl rfl rfl) .nil) uc sb (.inl rfl) ⟨xo, rfl, hxo.up uc (List.Sublist.refl _), rfl⟩
end Go.Proofs.YtpigpikhjlmdoaaGreat
