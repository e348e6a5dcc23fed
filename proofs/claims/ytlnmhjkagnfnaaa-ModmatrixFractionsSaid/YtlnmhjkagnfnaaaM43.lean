/- Texts of this seat's own, merged: each begins with its own remark. -/
import Derived.Test.YtlnmhjkagnfnaaaM9
import Derived.Test.YtlnmhjkagnfnaaaM14
import Derived.Test.YtlnmhjkagnfnaaaM18
import Derived.Test.YtlnmhjkagnfnaaaM10
import Derived.Test.YtlnmhjkagnfnaaaVz
import Derived.Test.YtlnmhjkagnfnaaaM48
import Derived.Test.YtlnmhjkagnfnaaaM7
import Derived.Test.YtlnmhjkagnfnaaaM15
import Derived.Test.YtlnmhjkagnfnaaaM41
/- Walks of modmatrix: rational reconstruction. -/
namespace Go.Proofs.Ytlnmhjkagnfnaaa
open Go.Hp
variable {G : World} {U U' : UH} {M : MH}

theorem DivMod_st {x y : IV} {z u : Int} (hx : x.rep U M z) (hn : x.n ≤ 1099511627776) (hy : y.rep U M u) (hn' : y.n ≤ 1099511627776) (hu : u ≠ 0) :
    Ct Try.prog 42 [x.v, y.v] G U M fun v U' D => ∃ q r : IV, v = .tuple #[q.v, r.v, .int .i64 0] ∧ q.nrm U' [] (z / u) ∧ r.nrm U' [] (z % u) ∧ D = [] :=
  (DivMod_ct hx hn hy hn').settle.mono fun _ _ _ _ ⟨h1, _, _, ⟨q, r, e, Dq, Dr, h2, h3, h4, _⟩, _, _, hs⟩ => by
    subst h3
    obtain ⟨rfl, h5, h6⟩ := h4 hu
    exact ⟨q, r, h2, h5.sett hs.right, h6.sett hs.left, h1⟩
theorem Sqrt_st {x : IV} {z : Int} (hx : x.rep U M z) (hn : x.n ≤ 1000) (h0 : 0 ≤ z) :
    Ct Try.prog 44 [x.v] G U M fun v U' D => ∃ (r : IV) (b : Bool) (R : Nat), v = .tuple #[r.v, .bool b, .int .i64 0] ∧ r.nrm U' [] (R : Int) ∧ R * R ≤ z.natAbs ∧ z.natAbs < (R + 1) * (R + 1) ∧ (b = true ↔ R * R = z.natAbs) ∧ D = [] :=
  (Sqrt_ct hx hn).settle.mono fun _ _ _ _ ⟨h1, _, _, ⟨r, b, e, h2, _, h3, _⟩, _, _, hs⟩ => by
    obtain ⟨rfl, R, h4, h5, h6, h7⟩ := h3 h0
    exact ⟨r, b, R, h2, h4.sett hs, h5, h6, h7, h1⟩
theorem sz_le {z u : Int} {k : Nat} (h : Sz u k) (hz : z.natAbs ≤ u.natAbs) : Sz z k := Nat.lt_of_le_of_lt hz h

theorem fRecon_ct {x y : IV} {a m : Int} (hx : x.rep U [] a) (hn : x.n ≤ 900) (hy : y.rep U [] m) (hn' : y.n ≤ 900) :
    Ct Try.prog 16 [x.v, y.v] G U M fun v U' D => ∃ (r : QV) (b : Bool) (e : Int), v = .tuple #[r.v, .bool b, .int .i64 e] ∧ D = [] ∧ (m < 2 → e = 2 ∧ b = false ∧ r = zeroQV) ∧ (2 ≤ m → e = 0 ∧ ∃ most : Nat, most * most ≤ ((m - 1) / 2).natAbs ∧ ((m - 1) / 2).natAbs < (most + 1) * (most + 1) ∧
      ((b = false ∧ r = zeroQV ∧ ∀ n' d' : Int, 1 ≤ d' → d' ≤ most → -(most : Int) ≤ n' → n' ≤ most → m ∣ n' - d' * a → Int.gcd d' m ≠ 1) ∨ (b = true ∧ ∃ n d : Int, 0 ≤ n ∧ n ≤ most ∧ d ≠ 0 ∧ d.natAbs ≤ most ∧ Int.gcd d m = 1 ∧ m ∣ n - d * a ∧ r.nrm U' [] (Rat.divInt n d)))) := by
  have sa := hx.sz (Nat.le_refl _)
  have sm := hy.sz (Nat.le_refl _)
  refine ct_of_st Try.func16 rfl rfl rfl rfl ?_
  repeat (first | refine run_S ?_ | refine w_box (fun _ => ?_) | refine w_al (fun _ => ?_))
  rename_i b2 b3 b4
  refine sl_call rfl rfl rfl rfl rfl rfl (fun _ => (Of_ct (z := 2) (by decide) (by decide)).settle) ?_
  rintro v Uh1 D hU ⟨rfl, _, _, ⟨xh1, rfl, h1, -⟩, -, -, hs⟩
  replace h1 := h1.sett hs
  clear hs
  repeat (first | refine run_S ?_ | refine w_box (fun _ => ?_) | refine w_al (fun _ => ?_))
  rename_i b7
  refine sl_call rfl rfl rfl rfl rfl rfl (fun _ => Cmp_ct (hy.up uc sb) (by omega) (h1.rep.up uc sb) (h1.le (k := 1) (by unfold Sz; decide) (by omega))) ?_
  rintro v U' D hU ⟨rfl, rfl, rfl⟩
  repeat (first | refine run_S ?_ | refine w_box (fun _ => ?_) | refine w_al (fun _ => ?_))
  refine st_dec rfl (fun h => ?_) (fun h => ?_)
  · have hm2 : m < 2 := by
      have := Int.sign_neg_iff.1 h
      omega
    repeat (first | refine run_S ?_ | refine w_box (fun _ => ?_) | refine w_al (fun _ => ?_))
    exact sk_ret [] sym rfl (.cons (.cell 1 rfl rfl rfl) (.cons (.tmp rfl) (.cons (.tmp rfl) .nil))) uc sb (.inl rfl) ⟨zeroQV, false, 2, rfl, rfl, fun _ => ⟨rfl, rfl, rfl⟩, fun h => absurd h (by omega)⟩
  have hm2 : 2 ≤ m := by
    rcases Int.lt_or_le m 2 with h2 | h2
    · exact absurd (Int.sign_neg_iff.2 (by omega)) h
    · exact h2
  try refine run_s ?_
  refine st_drawM [11, 12, 13] [0, 3, 1, 2, 4, 5, 6, 7, 8, 9, 10, 11, 12, 13] sym (by kernel_rfl) ?_
  repeat (first | refine run_S ?_ | refine w_box (fun _ => ?_) | refine w_al (fun _ => ?_))
  refine sl_call rfl rfl rfl rfl rfl rfl (fun _ => (Of_ct (z := 1) (by decide) (by decide)).settle) ?_
  rintro v Uh2 D hU ⟨rfl, _, _, ⟨xh2, rfl, h2, -⟩, -, -, hs⟩
  replace h2 := h2.sett hs
  clear hs
  repeat (first | refine run_S ?_ | refine w_box (fun _ => ?_) | refine w_al (fun _ => ?_))
  have s1 : Sz (1 : Int) 1 := by unfold Sz; decide
  have s2 : Sz (2 : Int) 1 := by unfold Sz; decide
  refine sl_call rfl rfl rfl rfl rfl rfl (fun _ => (Sub_ct (hy.up uc sb) (by omega) (h2.rep.up uc sb) (h2.le (s1) (by omega))).settle) ?_
  rintro v Uh3 D hU ⟨rfl, _, _, ⟨xh3, rfl, h3, -⟩, -, -, hs⟩
  replace h3 := h3.sett hs
  clear hs
  repeat (first | refine run_S ?_ | refine w_box (fun _ => ?_) | refine w_al (fun _ => ?_))
  have hm1 : (m - 1).natAbs ≤ m.natAbs := by omega
  refine sl_call rfl rfl rfl rfl rfl rfl (fun _ => DivMod_st (h3.rep.up uc sb) (h3.le (sz_le sm hm1) (by omega)) (h1.rep.up uc sb) (h1.le s2 (by omega)) (by decide)) ?_
  rintro v4 U4 D4 hU4 ⟨xq4, xr4, rfl, h4, -, rfl⟩
  try rw [List.nil_append]
  repeat (first | refine run_S ?_ | refine w_box (fun _ => ?_) | refine w_al (fun _ => ?_))
  rename_i b8 b9
  have hh : 0 ≤ (m - 1) / 2 ∧ ((m - 1) / 2).natAbs ≤ m.natAbs := by omega
  refine sl_call rfl rfl rfl rfl rfl rfl (fun _ => Sqrt_st (h4.rep.up uc sb) (h4.le (sz_le sm hh.2) (by omega)) hh.1) ?_
  rintro v5 U5 D5 hU5 ⟨xmost, bq, most, rfl, h5, hR1, hR2, -, rfl⟩
  try rw [List.nil_append]
  repeat (first | refine run_S ?_ | refine w_box (fun _ => ?_) | refine w_al (fun _ => ?_))
  rename_i b11
  refine sl_call rfl rfl rfl rfl rfl rfl (fun _ => DivMod_st (hx.up uc sb) (by omega) (hy.up uc sb) (by omega) (by omega)) ?_
  rintro v6 U6 D6 hU6 ⟨xq6, xr6, rfl, -, h6, rfl⟩
  try rw [List.nil_append]
  repeat (first | refine run_S ?_ | refine w_box (fun _ => ?_) | refine w_al (fun _ => ?_))
  rename_i b14 b15
  try refine run_s ?_
  refine st_drawM [6, 7, 8] [0, 1, 2, 3, 4, 5, 6, 7, 8] sym (by kernel_rfl) ?_
  repeat (first | refine run_S ?_ | refine w_box (fun _ => ?_) | refine w_al (fun _ => ?_))
  refine sl_call rfl rfl rfl rfl rfl rfl (fun _ => (Of_ct (z := 1) (by decide) (by decide)).settle) ?_
  rintro v Uh7 D hU ⟨rfl, _, _, ⟨xh7, rfl, h7, -⟩, -, -, hs⟩
  replace h7 := h7.sett hs
  clear hs
  repeat (first | refine run_S ?_ | refine w_box (fun _ => ?_) | refine w_al (fun _ => ?_))
  refine sl_call rfl rfl rfl rfl rfl rfl (fun _ => (Of_ct (z := 0) (by decide) (by decide)).settle) ?_
  rintro v Uh8 D hU ⟨rfl, _, _, ⟨xh8, rfl, h8, -⟩, -, -, hs⟩
  replace h8 := h8.sett hs
  clear hs
  repeat (first | refine run_S ?_ | refine w_box (fun _ => ?_) | refine w_al (fun _ => ?_))
  rename_i b17 b18 b19
  have hmost : (most : Int) < m := by
    have h1 := Nat.le_mul_self most
    omega
  have hmm : 2 * ((most : Int) * most) < m := by
    rw [← Int.natCast_mul]
    omega
  have hr0 := Int.emod_nonneg a (show m ≠ 0 by omega)
  have hr1 := Int.emod_lt_of_pos a (show 0 < m by omega)
  try refine st_anti (M' := (b19, .var xh8.v, 24) :: (b18, .var xh7.v, 24) :: (b17, .var y.v, 24) :: (b15, .var xr6.v, 24) :: (b11, .var xmost.v, 24) :: (b7, .var xh1.v, 24) :: (b4, .var zeroQV.v, 26) :: (b3, .var y.v, 24) :: M) (ULe.refl _) sbk ?_
  refine st_loop (fun z E U' M' => ∃ (xl xn xd xb : IV) (last n before d e : Int), xl.rep U' [] last ∧ xl.n ≤ 900 ∧ xn.nrm U' [] n ∧ xd.nrm U' [] d ∧ xb.nrm U' [] before ∧ Rc.Rec a m most last n before d e ∧ E = [(19, .pointer (some ⟨b19, 0, none⟩)), (18, .pointer (some ⟨b18, 0, none⟩)), (17, .pointer (some ⟨b17, 0, none⟩)), (15, .pointer (some ⟨b15, 0, none⟩)), (11, .pointer (some ⟨b11, 0, none⟩)), (7, .pointer (some ⟨b7, 0, none⟩)), (4, .pointer (some ⟨b4, 0, none⟩)), (3, .pointer (some ⟨b3, 0, none⟩)), (5, .bool false), (6, .int .i64 0)] ∧ ULe Uh8 U' ∧ M' = (b19, .var xb.v, 24) :: (b18, .var xd.v, 24) :: (b17, .var xl.v, 24) :: (b15, .var xn.v, 24) :: (b11, .var xmost.v, 24) :: (b7, .var xh1.v, 24) :: (b4, .var zeroQV.v, 26) :: (b3, .var y.v, 24) :: M ∧ z = n.toNat) (n0 := (a % m).toNat) (E0 := [(19, .pointer (some ⟨b19, 0, none⟩)), (18, .pointer (some ⟨b18, 0, none⟩)), (17, .pointer (some ⟨b17, 0, none⟩)), (15, .pointer (some ⟨b15, 0, none⟩)), (11, .pointer (some ⟨b11, 0, none⟩)), (7, .pointer (some ⟨b7, 0, none⟩)), (4, .pointer (some ⟨b4, 0, none⟩)), (3, .pointer (some ⟨b3, 0, none⟩)), (5, .bool false), (6, .int .i64 0)]) ⟨rfl, rfl, rfl, rfl, rfl, rfl, rfl, rfl, rfl, rfl, trivial⟩ ⟨y, xr6, xh7, xh8, m, a % m, 0, 1, 1, hy.up uc (List.Sublist.refl _), hn', h6.up uc (List.Sublist.refl _), h7.up uc (List.Sublist.refl _), h8.up uc (List.Sublist.refl _), Rc.Rec.start hr0 hr1 hmost ⟨-(a / m), by have := Int.mul_ediv_add_emod a m; rw [Int.mul_neg]; omega⟩, rfl, uc, rfl, rfl⟩ ?_
  clear h6 h7 h8
  rintro z E U9 M' ⟨xl, xn, xd, xb, last, n, before, d, e, hl, hln, hnn, hd, hb, hR, rfl, hU9, rfl, rfl⟩
  try refine run_s ?_
  have sl : Sz last 900 := hl.sz hln
  have hlp : 1 ≤ last := by have := hR.big; omega
  have sn : Sz n 900 := sz_le sl (by have := hR.n0; have := hR.nl; omega)
  have hdm : d.natAbs ≤ m.natAbs := hR.dm (by omega)
  have sd : Sz d 900 := (sz_le sm hdm).mono hn'
  have smost : Sz (most : Int) 900 := (sz_le sm (by omega)).mono hn'
  refine sl_call rfl rfl rfl rfl rfl rfl (fun _ => Cmp_ct (hnn.rep.up uc sb) (hnn.le sn (by omega)) (h5.rep.up uc sb) (h5.le smost (by omega))) ?_
  rintro v U' D hU ⟨rfl, rfl, rfl⟩
  repeat (first | refine run_S ?_ | refine w_box (fun _ => ?_) | refine w_al (fun _ => ?_))
  refine st_dec rfl (fun h9 => ?_) (fun h9 => ?_)
  · have hbig : (most : Int) < n := by
      have := Int.sign_pos_iff.1 h9
      omega
    have hq0 := Int.emod_nonneg last (show n ≠ 0 by omega)
    have hq1 := Int.emod_lt_of_pos last (show 0 < n by omega)
    have hdv := Int.mul_ediv_add_emod last n
    have hS := hR.step (q := last / n) (r := last % n) hbig (by omega) (by rw [Int.mul_comm]; omega) hq0 hq1
    have hbm : before.natAbs ≤ m.natAbs := hR.bm (by omega) (by omega)
    have sb' : Sz before 900 := (sz_le sm hbm).mono hn'
    have sq : Sz (last / n) 900 := sz_le sl (Int.natAbs_ediv_le_natAbs _ _)
    repeat (first | refine run_S ?_ | refine w_box (fun _ => ?_) | refine w_al (fun _ => ?_))
    refine sl_call rfl rfl rfl rfl rfl rfl (fun _ => DivMod_st (hl.up uc sb) (by omega) (hnn.rep.up uc sb) (hnn.le sn (by omega)) (by omega)) ?_
    rintro v10 U10 D10 hU10 ⟨xq, xr, rfl, hq, hr, rfl⟩
    try rw [List.nil_append]
    repeat (first | refine run_O ?_ | refine w_box (fun _ => ?_) | refine w_al (fun _ => ?_))
    rename_i b20 b21
    refine st_seq_cut (fun E U' M' => True ∧ E = [(20, .pointer (some ⟨b20, 0, none⟩)), (19, .pointer (some ⟨b19, 0, none⟩)), (18, .pointer (some ⟨b18, 0, none⟩)), (17, .pointer (some ⟨b17, 0, none⟩)), (15, .pointer (some ⟨b15, 0, none⟩)), (11, .pointer (some ⟨b11, 0, none⟩)), (7, .pointer (some ⟨b7, 0, none⟩)), (4, .pointer (some ⟨b4, 0, none⟩)), (3, .pointer (some ⟨b3, 0, none⟩)), (5, .bool false), (6, .int .i64 0)] ∧ ULe U10 U' ∧ M' = (b20, .var xq.v, 24) :: (b19, .var xb.v, 24) :: (b18, .var xd.v, 24) :: (b17, .var xn.v, 24) :: (b15, .var xr.v, 24) :: (b11, .var xmost.v, 24) :: (b7, .var xh1.v, 24) :: (b4, .var zeroQV.v, 26) :: (b3, .var y.v, 24) :: M) ?_ ?_
    · try refine run_s ?_
      refine st_drawTM [2, 3] (.node 1 2 (.leaf [0, 1, 2, 3]) (.leaf [0, 2, 1, 3])) sym (by kernel_rfl) (by kernel_rfl) (slTM_node (slTM_leaf ?_) (slTM_leaf ?_))
      all_goals
        repeat (first | refine run_S ?_ | refine w_box (fun _ => ?_) | refine w_al (fun _ => ?_))
        refine sk_anti (M' := (b20, .var xq.v, 24) :: (b19, .var xb.v, 24) :: (b18, .var xd.v, 24) :: (b17, .var xn.v, 24) :: (b15, .var xr.v, 24) :: (b11, .var xmost.v, 24) :: (b7, .var xh1.v, 24) :: (b4, .var zeroQV.v, 26) :: (b3, .var y.v, 24) :: M) (ULe.refl _) sbk ?_
        exact sk_cut (E' := [(20, .pointer (some ⟨b20, 0, none⟩)), (19, .pointer (some ⟨b19, 0, none⟩)), (18, .pointer (some ⟨b18, 0, none⟩)), (17, .pointer (some ⟨b17, 0, none⟩)), (15, .pointer (some ⟨b15, 0, none⟩)), (11, .pointer (some ⟨b11, 0, none⟩)), (7, .pointer (some ⟨b7, 0, none⟩)), (4, .pointer (some ⟨b4, 0, none⟩)), (3, .pointer (some ⟨b3, 0, none⟩)), (5, .bool false), (6, .int .i64 0)]) ⟨rfl, rfl, rfl, rfl, rfl, rfl, rfl, rfl, rfl, rfl, rfl, trivial⟩ ⟨trivial, rfl, uc, rfl⟩
    rintro E U11 M' ⟨-, rfl, hU11, rfl⟩
    try refine run_s ?_
    refine st_drawM [6, 7] [0, 1, 2, 3, 4, 5, 6, 7] sym (by kernel_rfl) ?_
    repeat (first | refine run_S ?_ | refine w_box (fun _ => ?_) | refine w_al (fun _ => ?_))
    refine sl_call rfl rfl rfl rfl rfl rfl (fun _ => (Mul_ct (hq.rep.up uc sb) (hq.le sq (by omega)) (hd.rep.up uc sb) (hd.le sd (by omega))).settle) ?_
    rintro v Uh11 D hU ⟨rfl, _, _, ⟨xh11, rfl, h11, -⟩, -, -, hs⟩
    replace h11 := h11.sett hs
    clear hs
    repeat (first | refine run_S ?_ | refine w_box (fun _ => ?_) | refine w_al (fun _ => ?_))
    refine sl_call rfl rfl rfl rfl rfl rfl (fun _ => (Sub_ct (hb.rep.up uc sb) (hb.le sb' (by omega)) (h11.rep.up uc sb) (h11.le (sq.mul sd) (by omega))).settle) ?_
    rintro v Uh12 D hU ⟨rfl, _, _, ⟨xh12, rfl, h12, -⟩, -, -, hs⟩
    replace h12 := h12.sett hs
    clear hs
    repeat (first | refine run_S ?_ | refine w_box (fun _ => ?_) | refine w_al (fun _ => ?_))
    refine sk_anti (M' := (b19, .var xd.v, 24) :: (b18, .var xh12.v, 24) :: (b17, .var xn.v, 24) :: (b15, .var xr.v, 24) :: (b11, .var xmost.v, 24) :: (b7, .var xh1.v, 24) :: (b4, .var zeroQV.v, 26) :: (b3, .var y.v, 24) :: M) (ULe.refl _) sbk ?_
    exact sk_again (E' := [(19, .pointer (some ⟨b19, 0, none⟩)), (18, .pointer (some ⟨b18, 0, none⟩)), (17, .pointer (some ⟨b17, 0, none⟩)), (15, .pointer (some ⟨b15, 0, none⟩)), (11, .pointer (some ⟨b11, 0, none⟩)), (7, .pointer (some ⟨b7, 0, none⟩)), (4, .pointer (some ⟨b4, 0, none⟩)), (3, .pointer (some ⟨b3, 0, none⟩)), (5, .bool false), (6, .int .i64 0)]) (m := (last % n).toNat) ⟨rfl, rfl, rfl, rfl, rfl, rfl, rfl, rfl, rfl, rfl, trivial⟩ (by omega) ⟨xn, xr, xh12, xd, n, last % n, d, before - last / n * d, -e, hnn.rep.up uc (List.Sublist.refl _), hnn.le sn (Nat.le_refl _), hr.up uc (List.Sublist.refl _), h12.up uc (List.Sublist.refl _), hd.up uc (List.Sublist.refl _), hS, rfl, uc, rfl, rfl⟩
  · have hsmall : n ≤ most := by
      rcases Int.lt_or_le most n with h10 | h10
      · exact absurd (Int.sign_pos_iff.2 (by omega)) h9
      · exact h10
    have hd0 : d ≠ 0 := fun e0 => by have := hR.dp; rw [e0, Int.mul_zero] at this; omega
    try refine run_s ?_
    refine st_drawM [3, 8, 9, 10, 11, 12] [0, 2, 1, 3, 4, 5, 6, 7, 8, 9, 10, 11, 12] sym (by kernel_rfl) ?_
    repeat (first | refine run_S ?_ | refine w_box (fun _ => ?_) | refine w_al (fun _ => ?_))
    refine sl_call rfl rfl rfl rfl rfl rfl (fun _ => (Abs_ct (hd.rep.up uc sb) (hd.le sd (by omega))).settle) ?_
    rintro v Uh13 D hU ⟨rfl, _, _, ⟨xh13, rfl, h13, -⟩, -, -, hs⟩
    replace h13 := h13.sett hs
    clear hs
    repeat (first | refine run_S ?_ | refine w_box (fun _ => ?_) | refine w_al (fun _ => ?_))
    refine sl_call rfl rfl rfl rfl rfl rfl (fun _ => Cmp_ct (h13.rep.up uc sb) (h13.le (k := 900) (by unfold Sz at sd ⊢; rw [Int.natAbs_natCast]; exact sd) (by omega)) (h5.rep.up uc sb) (h5.le smost (by omega))) ?_
    rintro v U' D hU ⟨rfl, rfl, rfl⟩
    repeat (first | refine run_S ?_ | refine w_box (fun _ => ?_) | refine w_al (fun _ => ?_))
    have hcomp : ∀ n' d' : Int, 1 ≤ d' → d' ≤ most → -(most : Int) ≤ n' → n' ≤ most → m ∣ n' - d' * a → d.natAbs ∣ d'.natAbs := fun n' d' k1 k2 k3 k4 k5 => by
      obtain ⟨b, -, hb2⟩ := hR.complete hsmall hmm k1 k2 k3 k4 k5
      rw [hb2, Int.natAbs_mul]
      exact Nat.dvd_mul_left ..
    refine sl_gdec rfl rfl (fun h14 => ?_) (fun h14 => ?_)
    · have hd2 : (most : Int) < d.natAbs := by
        have := Int.sign_pos_iff.1 h14
        omega
      repeat (first | refine run_S ?_ | refine w_box (fun _ => ?_) | refine w_al (fun _ => ?_))
      refine sk_ret [] sym rfl (.cons (.cell 6 rfl rfl rfl) (.cons (.tmp rfl) (.cons (.tmp rfl) .nil))) uc sb (.inl rfl) ⟨zeroQV, false, 0, rfl, rfl, fun h => absurd h (by omega), fun _ => ⟨rfl, most, hR1, hR2, .inl ⟨rfl, rfl, fun n' d' k1 k2 k3 k4 k5 => ?_⟩⟩⟩
      have := Nat.le_of_dvd (by omega) (hcomp n' d' k1 k2 k3 k4 k5)
      omega
    · have hd2 : (d.natAbs : Int) ≤ most := by
        rcases Int.lt_or_le (most : Int) (d.natAbs : Int) with h10 | h10
        · exact absurd (Int.sign_pos_iff.2 (by omega)) h14
        · exact h10
      repeat (first | refine run_S ?_ | refine w_box (fun _ => ?_) | refine w_al (fun _ => ?_))
      refine sl_call rfl rfl rfl rfl rfl rfl (fun _ => (Gcd_ct (hd.rep.up uc sb) (hd.le sd (by omega)) (hy.up uc sb) (by omega)).settle) ?_
      rintro v Uh15 D hU ⟨rfl, _, _, ⟨xh15, rfl, h15, -⟩, -, -, hs⟩
      replace h15 := h15.sett hs
      clear hs
      repeat (first | refine run_S ?_ | refine w_box (fun _ => ?_) | refine w_al (fun _ => ?_))
      refine sl_call rfl rfl rfl rfl rfl rfl (fun _ => (Of_ct (z := 1) (by decide) (by decide)).settle) ?_
      rintro v Uh16 D hU ⟨rfl, _, _, ⟨xh16, rfl, h16, -⟩, -, -, hs⟩
      replace h16 := h16.sett hs
      clear hs
      repeat (first | refine run_S ?_ | refine w_box (fun _ => ?_) | refine w_al (fun _ => ?_))
      have sg : Sz ((Int.gcd d m : Nat) : Int) 900 := sz_le sd (by rw [Int.natAbs_natCast]; exact Nat.le_of_dvd (by omega) (Nat.gcd_dvd_left _ _))
      refine sl_call rfl rfl rfl rfl rfl rfl (fun _ => Cmp_ct (h15.rep.up uc sb) (h15.le sg (by omega)) (h16.rep.up uc sb) (h16.le s1 (by omega))) ?_
      rintro v U' D hU ⟨rfl, rfl, rfl⟩
      repeat (first | refine run_S ?_ | refine w_box (fun _ => ?_) | refine w_al (fun _ => ?_))
      refine st_ne rfl (fun h17 => ?_) (fun h17 => ?_)
      · have hg : Int.gcd d m ≠ 1 := fun e1 => h17 (by rw [e1]; rfl)
        repeat (first | refine run_S ?_ | refine w_box (fun _ => ?_) | refine w_al (fun _ => ?_))
        refine sk_ret [] sym rfl (.cons (.cell 6 rfl rfl rfl) (.cons (.tmp rfl) (.cons (.tmp rfl) .nil))) uc sb (.inl rfl) ⟨zeroQV, false, 0, rfl, rfl, fun h => absurd h (by omega), fun _ => ⟨rfl, most, hR1, hR2, .inl ⟨rfl, rfl, fun n' d' k1 k2 k3 k4 k5 hg' => hg ?_⟩⟩⟩
        have h18 : Int.gcd d m ∣ Int.gcd d' m := Nat.dvd_gcd (Nat.dvd_trans (Nat.gcd_dvd_left _ _) (hcomp n' d' k1 k2 k3 k4 k5)) (Nat.gcd_dvd_right _ _)
        rw [hg'] at h18
        exact Nat.dvd_one.1 h18
      · have hg : Int.gcd d m = 1 := by
          have := Int.sign_eq_zero_iff_zero.1 h17
          omega
        repeat (first | refine run_S ?_ | refine w_box (fun _ => ?_) | refine w_al (fun _ => ?_))
        refine sl_call rfl rfl rfl rfl rfl rfl (fun _ => (qMake_ct (hnn.rep.up uc sb) (hnn.le sn (by omega)) (hd.rep.up uc sb) (hd.le sd (by omega))).settle) ?_
        rintro v20 U20 D20 hU20 ⟨rfl, _, _, ⟨r, e20, rfl, -, h21, -⟩, -, hU21, hs⟩
        obtain ⟨rfl, h22⟩ := h21 hd0
        have h23 := h22.sett hs
        rw [List.nil_append]
        repeat (first | refine run_S ?_ | refine w_box (fun _ => ?_) | refine w_al (fun _ => ?_))
        exact sk_ret [] sym rfl (.cons (.cell 7 rfl rfl rfl) (.cons (.tmp rfl) (.cons (.tmp rfl) .nil))) uc sb (.inl rfl) ⟨r, true, 0, rfl, rfl, fun h => absurd h (by omega), fun _ => ⟨rfl, most, hR1, hR2, .inr ⟨rfl, n, d, hR.n0, hsmall, hd0, by omega, hg, hR.cn, h23⟩⟩⟩
end Go.Proofs.Ytlnmhjkagnfnaaa

/- Walks of the reference of layer 13: rational reconstruction. -/
namespace Go.Proofs.Ytlnmhjkagnfnaaa
open Go.Hp
variable {G : World} {U U' : UH} {M : MH}

theorem rEuclid_st {x y : IV} {z u : Int} (hx : x.rep U M z) (hn : x.n ≤ 274877906944) (hy : y.rep U M u) (hn' : y.n ≤ 274877906944) (hu : u ≠ 0) :
    Ct Try.prog 27 [x.v, y.v] G U M fun v U' D => ∃ q r : IV, v = .tuple #[q.v, r.v] ∧ q.nrm U' [] (z / u) ∧ r.nrm U' [] (z % u) ∧ D = [] :=
  (rEuclid_ct hx hn hy hn' hu).settle.mono fun _ _ _ _ ⟨h1, _, _, ⟨q, r, Dq, Dr, h2, h3, h4, h5, _⟩, _, _, hs⟩ => by
    subst h3
    exact ⟨q, r, h2, h4.sett hs.right, h5.sett hs.left, h1⟩
theorem z13Limit_ct {y : IV} {m : Int} (hy : y.rep U [] m) (hn' : y.n ≤ 900) (hm : 1 ≤ m) :
    Ct Try.prog 8 [y.v] G U M fun v U' D => ∃ (r : IV) (R : Nat), v = r.v ∧ r.nrm U' [] (R : Int) ∧ R * R ≤ ((m - 1) / 2).natAbs ∧ ((m - 1) / 2).natAbs < (R + 1) * (R + 1) ∧ D = [] := by
  have sm := hy.sz (Nat.le_refl _)
  have s1 : Sz (1 : Int) 1 := by unfold Sz; decide
  have s2 : Sz (2 : Int) 1 := by unfold Sz; decide
  refine ct_of_st Try.func8 rfl rfl rfl rfl ?_
  repeat (first | refine run_S ?_ | refine w_box (fun _ => ?_) | refine w_al (fun _ => ?_))
  refine st_drawM [10, 11] [0, 1, 2, 3, 4, 5, 6, 7, 8, 9, 10, 11] sym (by kernel_rfl) ?_
  repeat (first | refine run_S ?_ | refine w_box (fun _ => ?_) | refine w_al (fun _ => ?_))
  refine sl_call rfl rfl rfl rfl rfl rfl (fun _ => (rOf_ct (z := 1) (by decide) (by decide)).settle) ?_
  rintro v Uh1 D hU ⟨rfl, _, _, ⟨xh1, rfl, h1, -⟩, -, -, hs⟩
  replace h1 := h1.sett hs
  clear hs
  repeat (first | refine run_S ?_ | refine w_box (fun _ => ?_) | refine w_al (fun _ => ?_))
  refine sl_call rfl rfl rfl rfl rfl rfl (fun _ => (rSub_ct (hy.up uc sb) (by omega) (h1.rep.up uc sb) (h1.le (s1) (by omega))).settle) ?_
  rintro v Uh3 D hU ⟨rfl, _, _, ⟨xh3, rfl, h3, -⟩, -, -, hs⟩
  replace h3 := h3.sett hs
  clear hs
  repeat (first | refine run_S ?_ | refine w_box (fun _ => ?_) | refine w_al (fun _ => ?_))
  refine sl_call rfl rfl rfl rfl rfl rfl (fun _ => (rOf_ct (z := 2) (by decide) (by decide)).settle) ?_
  rintro v Uh2 D hU ⟨rfl, _, _, ⟨xh2, rfl, h2, -⟩, -, -, hs⟩
  replace h2 := h2.sett hs
  clear hs
  repeat (first | refine run_S ?_ | refine w_box (fun _ => ?_) | refine w_al (fun _ => ?_))
  have hm1 : (m - 1).natAbs ≤ m.natAbs := by omega
  refine sl_call rfl rfl rfl rfl rfl rfl (fun _ => rEuclid_st (h3.rep.up uc sb) (h3.le (sz_le sm hm1) (by omega)) (h2.rep.up uc sb) (h2.le s2 (by omega)) (by decide)) ?_
  rintro v4 U4 D4 hU4 ⟨xq4, xr4, rfl, h4, -, rfl⟩
  try rw [List.nil_append]
  repeat (first | refine run_S ?_ | refine w_box (fun _ => ?_) | refine w_al (fun _ => ?_))
  have hh : 0 ≤ (m - 1) / 2 ∧ ((m - 1) / 2).natAbs ≤ m.natAbs := by omega
  obtain ⟨A, hA⟩ : ∃ A : Nat, (m - 1) / 2 = (A : Int) := ⟨((m - 1) / 2).toNat, by omega⟩
  rw [hA] at h4
  refine sl_call rfl rfl rfl rfl rfl rfl (fun _ => (rRoot_ct (A := A) (h4.rep.up uc sb) (h4.le (k := 900) ((sz_le sm (by omega)).mono hn') (by omega))).settle) ?_
  rintro v5 U5 D5 hU5 ⟨rfl, _, _, ⟨r, R, rfl, h5, h6, h7, -⟩, -, -, hs⟩
  have h8 := h5.sett hs
  rw [List.nil_append]
  repeat (first | refine run_S ?_ | refine w_box (fun _ => ?_) | refine w_al (fun _ => ?_))
  exact sk_ret [] sym rfl (.cons (.cell 2 rfl rfl rfl) .nil) uc sb (.inl rfl) ⟨r, R, rfl, h8, by rw [hA, Int.natAbs_natCast]; exact h6, by rw [hA, Int.natAbs_natCast]; exact h7, rfl⟩

end Go.Proofs.Ytlnmhjkagnfnaaa

/- Walks of the reference of layer 13: the search for a fraction. -/
namespace Go.Proofs.Ytlnmhjkagnfnaaa
open Go.Hp
variable {G : World} {U U' : UH} {M : MH}

/-- The residue that the search looks at. -/
def cen (w m : Int) : Int := if w % m > m / 2 then w % m - m else w % m
end Go.Proofs.Ytlnmhjkagnfnaaa
