/- Laws of layer 36: counts. -/
import Derived.Test.YtjfkodlddladhaaGreatM57
import Derived.Test.YtjfkodlddladhaaGreatM55
namespace Go.Proofs.YtjfkodlddladhaaGreat
open Go.Hp
variable {G : World} {U U' : UH} {M : MH}
theorem szl_pre {b : Nat → Nat} {n k : Nat} (h : Bx.szl 1048576 b n ≤ k) (hk : k ≤ 1048576) : Bx.pre b n ≤ k := by
  obtain ⟨h1, h2⟩ := Bx.szl_ok (B := 1048576) (b := b) n
  rcases Nat.lt_or_ge 1048576 (Bx.pre b n) with h3 | h3
  · rcases h2 h3 with h4 | h4 <;> omega
  · rw [h1 h3] at h; exact h
set_option maxHeartbeats 4000000 in
theorem ThetaCounts_ct {vg : Value} {r m : Int} {N : Nat} {f : Nat → Int} (hg : RawG U vg r N f) (hm0 : -9223372036854775808 ≤ m) (hm1 : m ≤ 9223372036854775807) :
    Ct Tryz.prog 7 [vg, .int .i64 m] G U M fun v _ _ => v = .bool true := by
  obtain ⟨hr, hNm, _, rfl, p, c, vs, rfl, hc, rw1, el⟩ := hg
  refine ct_of_st Tryz.func7 rfl rfl rfl rfl ?_
  repeat (first | refine run_S ?_ | refine w_box (fun _ => ?_) | refine w_al (fun _ => ?_))
  rename_i b2
  refine sl_call rfl rfl rfl rfl rfl rfl (fun _ => r36Check_ct (rw1.up uc (List.nil_sublist _)) (el.up KeptC.out uc) hc hNm) ?_
  rintro v1 U1 D hU1 ⟨rfl, -, rfl⟩
  rw [List.nil_append]
  repeat (first | refine run_S ?_ | refine w_box (fun _ => ?_) | refine w_al (fun _ => ?_))
  refine sl_gdec rfl rfl (fun h1 => ?_) (fun h1 => ?_)
  · repeat (first | refine run_S ?_ | refine w_box (fun _ => ?_) | refine w_al (fun _ => ?_))
    refine sl_call rfl rfl rfl rfl rfl rfl (fun _ => awake36_ct) ?_
    rintro v9 U9 D9 hU9 ⟨rfl, -, rfl⟩
    try rw [List.nil_append]
    repeat (first | refine run_S ?_ | refine w_box (fun _ => ?_) | refine w_al (fun _ => ?_))
    exact sk_ret [] sym rfl (.cons (.tmp rfl) .nil) uc sb (.inl rfl) rfl
  have h1 : chk r N f = 0 := Classical.not_not.1 h1
  obtain ⟨n, rfl, hn1, hn8, rfl, hb, he, hp⟩ := chk_zero h1
  repeat (first | refine run_S ?_ | refine w_box (fun _ => ?_) | refine w_al (fun _ => ?_))
  refine sl_gdec rfl rfl (fun h2 => ?_) (fun h2 => ?_)
  · repeat (first | refine run_S ?_ | refine w_box (fun _ => ?_) | refine w_al (fun _ => ?_))
    refine sl_call rfl rfl rfl rfl rfl rfl (fun _ => awake36_ct) ?_
    rintro v9 U9 D9 hU9 ⟨rfl, -, rfl⟩
    try rw [List.nil_append]
    repeat (first | refine run_S ?_ | refine w_box (fun _ => ?_) | refine w_al (fun _ => ?_))
    exact sk_ret [] sym rfl (.cons (.tmp rfl) .nil) uc sb (.inl rfl) rfl
  repeat (first | refine run_S ?_ | refine w_box (fun _ => ?_) | refine w_al (fun _ => ?_))
  refine sl_gdec rfl rfl (fun h3 => ?_) (fun h3 => ?_)
  · repeat (first | refine run_S ?_ | refine w_box (fun _ => ?_) | refine w_al (fun _ => ?_))
    refine sl_call rfl rfl rfl rfl rfl rfl (fun _ => awake36_ct) ?_
    rintro v9 U9 D9 hU9 ⟨rfl, -, rfl⟩
    try rw [List.nil_append]
    repeat (first | refine run_S ?_ | refine w_box (fun _ => ?_) | refine w_al (fun _ => ?_))
    exact sk_ret [] sym rfl (.cons (.tmp rfl) .nil) uc sb (.inl rfl) rfl
  obtain ⟨m, rfl⟩ : ∃ k : Nat, m = (k : Int) := ⟨m.toNat, by omega⟩
  have hm20 : m ≤ 20 := by omega
  obtain ⟨X0, hI0⟩ := inv_ex hb he hp hn1 hn8
  repeat (first | refine run_S ?_ | refine w_box (fun _ => ?_) | refine w_al (fun _ => ?_))
  refine sl_call rfl rfl rfl rfl rfl rfl (fun _ => r36Box_ct (rw1.up uc (List.nil_sublist _)) (el.up KeptC.out uc) hb he hp hn1 hn8 hc (show m ≤ 1000 by omega) hI0) ?_
  rintro v5 U5 D5 hU5 ⟨rfl, -, rfl⟩
  try rw [List.nil_append]
  repeat (first | refine run_S ?_ | refine w_box (fun _ => ?_) | refine w_al (fun _ => ?_))
  refine st_dec rfl (fun h4 => ?_) (fun h4 => ?_)
  · repeat (first | refine run_S ?_ | refine w_box (fun _ => ?_) | refine w_al (fun _ => ?_))
    refine sl_call rfl rfl rfl rfl rfl rfl (fun _ => awake36_ct) ?_
    rintro v9 U9 D9 hU9 ⟨rfl, -, rfl⟩
    try rw [List.nil_append]
    repeat (first | refine run_S ?_ | refine w_box (fun _ => ?_) | refine w_al (fun _ => ?_))
    exact sk_ret [] sym rfl (.cons (.tmp rfl) .nil) uc sb (.inl rfl) rfl
  have hp0 : Bx.pre (bd X0 m) n ≤ 4000 := szl_pre (by omega) (by decide)
  repeat (first | refine run_S ?_ | refine w_box (fun _ => ?_) | refine w_al (fun _ => ?_))
  refine sl_call rfl rfl rfl rfl rfl rfl (fun _ => tVectors_ct (r := (n : Int)) (m := (m : Int)) (rw1.up uc (List.nil_sublist _)) (el.up KeptC.out uc) (by omega) (by omega)) ?_
  rintro v6 U6 D6 hU6 ⟨-, -, -, hv, rfl⟩
  try rw [List.nil_append]
  obtain ⟨X, hI, hv, -⟩ := hv n m rfl rfl (by omega) h1
  obtain ⟨b, hbd⟩ : ∃ b, b = bd X m := ⟨_, rfl⟩
  have hpre : Bx.pre b n ≤ 4000 := by rw [hbd, pre_congr (b' := bd X0 m) fun i hi => bd_uniq hI hI0 hi]; exact hp0
  rw [← hbd] at hv
  obtain ⟨_, rfl, hl⟩ := hv (by omega)
  obtain ⟨t, htd⟩ : ∃ t, t = (Bx.idx (pv n f b m) (Bx.pre b n)).length := ⟨_, rfl⟩
  rw [← htd] at hl
  have htN : t ≤ 4000 := by rw [htd]; exact Nat.le_trans (idx_le _ _) hpre
  obtain ⟨pl, cl, ls, rfl, hcl, rl, ell⟩ := id hl
  repeat (first | refine run_S ?_ | refine w_box (fun _ => ?_) | refine w_al (fun _ => ?_))
  refine sl_call rfl rfl rfl rfl rfl rfl (fun _ => tExpansion_ct (r := (n : Int)) (prec := (m : Int) + 1) (rw1.up uc (List.nil_sublist _)) (el.up KeptC.out uc) (by omega) (by omega)) ?_
  rintro v7 U7 D7 hU7 ⟨-, hw, rfl⟩
  try rw [List.nil_append]
  obtain ⟨X2, hI2, hw, -⟩ := (hw n rfl h1).2 (m + 1) rfl (by omega)
  have hb2 : ∀ i, i < n → bd X2 (m + 1 - 1) i = b i := fun i hi => by rw [hbd]; exact bd_uniq hI2 hI hi
  have hpre2 := pre_congr hb2
  rw [hpre2] at hw
  obtain ⟨s, _, hs, rfl, _, rfl, hser⟩ := hw (by omega)
  obtain ⟨g, hgd⟩ : ∃ g : Nat → Rat, g = fun q => (((cv n f b (Bx.pre b n) q : Nat) : Int) : Rat) := ⟨_, rfl⟩
  have hge : (fun q => (((cv n f (bd X2 (m + 1 - 1)) (Bx.pre b n) q : Nat) : Int) : Rat)) = g := by rw [hgd]; exact funext fun q => by rw [cv_congr hb2]
  rw [hge] at hs
  have hge2 : (fun k => (((cv n f (bd X2 (m + 1 - 1)) (Bx.pre b n) (s + k) : Nat) : Int) : Rat)) = fun k => g (s + k) := funext fun k => congrFun hge (s + k)
  rw [hge2] at hser
  have hgs : ∀ q, Szq (g q) 1 := fun q => by
    have h2 := cnt_le (fun t => vn n f b t == q) (Bx.pre b n)
    rw [hgd]
    refine szq_int ?_ (by decide)
    unfold Sz cv
    omega
  have hgm : g m = ((t : Int) : Rat) := by rw [hgd, htd, Bx.idx_len]; rfl
  obtain ⟨pv2, cw, us2, rfl, -⟩ := id hser
  repeat (first | refine run_S ?_ | refine w_box (fun _ => ?_) | refine w_al (fun _ => ?_))
  rename_i b7
  have v2 : Vser Vq U7 [] (.agg #[.int .i64 (s : Int), .slice pv2 (m + 1 - s) cw]) (s : Int) (m + 1 - s) (fun k => g (s + k)) := ⟨_, rfl, hser⟩
  have hs' := hs.1
  refine sl_gdec rfl rfl (fun h => absurd rfl h) (fun _ => ?_)
  repeat (first | refine run_S ?_ | refine w_box (fun _ => ?_) | refine w_al (fun _ => ?_))
  refine sl_gdec rfl rfl (fun h => absurd rfl h) (fun _ => ?_)
  repeat (first | refine run_S ?_ | refine w_box (fun _ => ?_) | refine w_al (fun _ => ?_))
  refine sl_call rfl rfl rfl rfl rfl rfl (fun _ => r33Prec_ct (v2.up kept_q uc (List.nil_sublist _)) (by omega)) ?_
  rintro v U' D hU ⟨rfl, rfl, rfl⟩
  repeat (first | refine run_S ?_ | refine w_box (fun _ => ?_) | refine w_al (fun _ => ?_))
  refine sl_gdec rfl rfl (fun h => absurd (show (s : Int) + ((m + 1 - s : Nat) : Int) = (m : Int) + 1 by omega) h) (fun _ => ?_)
  repeat (first | refine run_S ?_ | refine w_box (fun _ => ?_) | refine w_al (fun _ => ?_))
  refine sl_call rfl rfl rfl rfl rfl rfl (fun _ => r33Coef_ct (b := 1) (n := (m : Int)) (v2.up kept_q uc (List.nil_sublist _)) (fun k _ => hgs _) (by decide) (by omega) (by omega) (by omega)) ?_
  rintro v Uh61 D hU ⟨xh61, rfl, h61, rfl⟩
  repeat (first | refine run_S ?_ | refine w_box (fun _ => ?_) | refine w_al (fun _ => ?_))
  rw [skp_at hs, hgm] at h61
  refine sl_call rfl rfl rfl rfl rfl rfl (fun _ => (bQ_ct (z := (t : Int)) (by omega) (by omega)).settle) ?_
  rintro v Uh64 D hU ⟨rfl, _, _, ⟨xh64, rfl, h64, -⟩, -, -, hs⟩
  replace h64 := h64.sett hs
  clear hs
  repeat (first | refine run_S ?_ | refine w_box (fun _ => ?_) | refine w_al (fun _ => ?_))
  refine sl_call rfl rfl rfl rfl rfl rfl (fun _ => rqSame_ct (h61.up uc (List.nil_sublist _)) (h64.up uc (List.nil_sublist _))) ?_
  rintro v U' D hU ⟨rfl, rfl, rfl⟩
  repeat (first | refine run_S ?_ | refine w_box (fun _ => ?_) | refine w_al (fun _ => ?_))
  rw [decide_eq_true rfl]
  repeat (first | refine run_S ?_ | refine w_box (fun _ => ?_) | refine w_al (fun _ => ?_))
  try refine st_anti (M' := (b7, .var (.agg #[.int .i64 (s : Int), .slice pv2 (m + 1 - s) cw]), 30) :: (b2, .var (.agg #[.int .i64 (n : Int), .slice p (n * n) c]), 24) :: M) (ULe.refl _) sbk ?_
  refine st_loop (fun z E U' M' => ∃ (i : Nat), i ≤ t ∧ Uh64 = U' ∧ E = [(9, .int .i64 (i : Int)), (5, .slice pl t cl), (2, .pointer (some ⟨b2, 0, none⟩)), (1, .int .i64 (m : Int))] ∧ ULe Uh64 U' ∧ M' = (b7, .var (.agg #[.int .i64 (s : Int), .slice pv2 (m + 1 - s) cw]), 30) :: (b2, .var (.agg #[.int .i64 (n : Int), .slice p (n * n) c]), 24) :: M ∧ z = t - i) (n0 := t - 0) (E0 := [(9, .int .i64 ((0 : Nat) : Int)), (5, .slice pl t cl), (2, .pointer (some ⟨b2, 0, none⟩)), (1, .int .i64 (m : Int))]) ⟨rfl, rfl, rfl, rfl, trivial⟩ ⟨0, by omega, rfl, rfl, uc, rfl, rfl⟩ ?_
  rintro z E U8 M' ⟨i, hi, rfl, rfl, hU8, rfl, rfl⟩
  try refine run_s ?_
  refine st_dec rfl (fun h5 => ?_) (fun h5 => ?_)
  · have hit : i < t := by omega
    obtain ⟨w1, hw1⟩ := rl.at hit
    obtain ⟨q1, c1, xs1, rfl, hc1, rx, ex⟩ := ell _ _ hw1
    obtain ⟨w2, hw2⟩ := rl.at (show t - 1 - i < t by omega)
    obtain ⟨q2, c2, xs2, rfl, hc2, ry, ey⟩ := ell _ _ hw2
    have hrev : ∀ j, j < n → vv n f b m (t - 1 - i) j = -vv n f b m i j := fun j hj => by
      rw [htd] at hit ⊢
      exact vv_rev hit hj
    have hval : qp n f (vv n f b m i) n = 2 * (m : Int) := vv_val he hp (by rw [htd] at hit; exact hit)
    obtain ⟨x, hx⟩ : ∃ x, x = vv n f b m i := ⟨_, rfl⟩
    rw [← hx] at ex hrev hval
    have ey' : El Vz U6 xs2 (fun j => -x j) := ey.congr ry.len hrev
    have hxb : ∀ j, j < n → -1048576 ≤ x j ∧ x j ≤ 1048576 := fun j hj => by
      rw [htd] at hit
      rw [hx, vv_idx hit]
      have h6 := Bx.vec_le b n ((Bx.idx (pv n f b m) (Bx.pre b n))[i]) j
      have h7 := side_le (B := 4000) hj hpre
      omega
    try refine run_s ?_
    refine sl_y (yl_index sym rfl rfl rfl rfl rfl ( (show _ = ((t - 1 - i : Nat) : Int) by omega)) ((rl.up uc sb).lt hw2) ((rl.up uc sb).get _ _ hw2).1) rfl rfl rfl rfl ?_; refine sl_y (yl_loadR1 sym rfl rfl rfl rfl (rl.up uc sb) hw2 rfl) rfl rfl rfl rfl ?_
    try refine run_s ?_
    refine st_drawM [13, 14] [0, 1, 2, 3, 4, 5, 6, 7, 8, 9, 10, 11, 12, 13, 14] sym (by kernel_rfl) ?_
    try refine run_s ?_
    refine sl_y (yl_index sym rfl rfl rfl rfl rfl rfl ((rl.up uc sb).lt hw1) ((rl.up uc sb).get _ _ hw1).1) rfl rfl rfl rfl ?_; refine sl_y (yl_loadR1 sym rfl rfl rfl rfl (rl.up uc sb) hw1 rfl) rfl rfl rfl rfl ?_
    try refine run_s ?_
    refine sl_gdec rfl rfl (fun h => absurd rfl h) (fun _ => ?_)
    try refine run_s ?_
    refine st_ne rfl (fun h => absurd rfl h) (fun _ => ?_)
    try refine run_s ?_
    try refine st_anti (M' := (b7, .var (.agg #[.int .i64 (s : Int), .slice pv2 (m + 1 - s) cw]), 30) :: (b2, .var (.agg #[.int .i64 (n : Int), .slice p (n * n) c]), 24) :: M) (ULe.refl _) sbk ?_
    refine st_loop (fun z E U' M' => ∃ (j : Nat), j ≤ n ∧ Uh64 = U' ∧ E = [(12, .int .i64 (j : Int)), (11, .int .i64 (ws n f x j 0)), (10, .slice q2 n c2), (9, .int .i64 (i : Int)), (5, .slice pl t cl), (2, .pointer (some ⟨b2, 0, none⟩)), (1, .int .i64 (m : Int))] ∧ ULe Uh64 U' ∧ M' = (b7, .var (.agg #[.int .i64 (s : Int), .slice pv2 (m + 1 - s) cw]), 30) :: (b2, .var (.agg #[.int .i64 (n : Int), .slice p (n * n) c]), 24) :: M ∧ z = n - j) (n0 := n - 0) (E0 := [(12, .int .i64 ((0 : Nat) : Int)), (11, .int .i64 (ws n f x 0 0)), (10, .slice q2 n c2), (9, .int .i64 (i : Int)), (5, .slice pl t cl), (2, .pointer (some ⟨b2, 0, none⟩)), (1, .int .i64 (m : Int))]) ⟨rfl, rfl, rfl, rfl, rfl, rfl, rfl, trivial⟩ ⟨0, by omega, rfl, rfl, uc, rfl, rfl⟩ ?_
    rintro z E U9 M' ⟨j, hj, rfl, rfl, hU9, rfl, rfl⟩
    try refine run_s ?_
    refine st_dec rfl (fun h6 => ?_) (fun h6 => ?_)
    · have hjn : j < n := by omega
      obtain ⟨u1, hu1⟩ := rx.at hjn
      obtain ⟨hv1, hz1⟩ := ex _ _ hu1
      subst hv1
      obtain ⟨u3, hu3⟩ := ry.at hjn
      obtain ⟨hv3, hz3⟩ := ey' _ _ hu3
      obtain rfl : u3 = .int .i64 (-x j) := hv3
      have hxj := hxb j hjn
      try refine run_s ?_
      try refine st_anti (M' := (b7, .var (.agg #[.int .i64 (s : Int), .slice pv2 (m + 1 - s) cw]), 30) :: (b2, .var (.agg #[.int .i64 (n : Int), .slice p (n * n) c]), 24) :: M) (ULe.refl _) sbk ?_
      refine st_loop (fun z E U' M' => ∃ (k : Nat), k ≤ n ∧ Uh64 = U' ∧ E = [(13, .int .i64 (k : Int)), (12, .int .i64 (j : Int)), (11, .int .i64 (ws n f x j k)), (10, .slice q2 n c2), (9, .int .i64 (i : Int)), (5, .slice pl t cl), (2, .pointer (some ⟨b2, 0, none⟩)), (1, .int .i64 (m : Int))] ∧ ULe Uh64 U' ∧ M' = (b7, .var (.agg #[.int .i64 (s : Int), .slice pv2 (m + 1 - s) cw]), 30) :: (b2, .var (.agg #[.int .i64 (n : Int), .slice p (n * n) c]), 24) :: M ∧ z = n - k) (n0 := n - 0) (E0 := [(13, .int .i64 ((0 : Nat) : Int)), (12, .int .i64 (j : Int)), (11, .int .i64 (ws n f x j 0)), (10, .slice q2 n c2), (9, .int .i64 (i : Int)), (5, .slice pl t cl), (2, .pointer (some ⟨b2, 0, none⟩)), (1, .int .i64 (m : Int))]) ⟨rfl, rfl, rfl, rfl, rfl, rfl, rfl, rfl, trivial⟩ ⟨0, by omega, rfl, rfl, uc, rfl, rfl⟩ ?_
      rintro z E U10 M' ⟨k, hk, rfl, rfl, hU10, rfl, rfl⟩
      try refine run_s ?_
      refine st_dec rfl (fun h7 => ?_) (fun h7 => ?_)
      · have hkn : k < n := by omega
        obtain ⟨u2, hu2⟩ := rx.at hkn
        obtain ⟨hv2, hz2⟩ := ex _ _ hu2
        subst hv2
        have hl := ij_lt hjn hkn
        obtain ⟨u4, hu4⟩ := rw1.at hl
        obtain ⟨hv4, hz4⟩ := el _ _ hu4
        subst hv4
        have m1 := mul_bd hxj (hxb k hkn)
        have m2 := mul_bd m1 (hb _ hl)
        have r1 := ws_bd (x := x) hn8 hjn (show k ≤ n by omega) hb hxb
        have r2 := ws_bd (x := x) hn8 hjn (show k + 1 ≤ n by omega) hb hxb
        have e1 : ws n f x j (k + 1) = ws n f x j k + x j * x k * f (j * n + k) := (Int.add_assoc _ _ _).symm
        have e2 : (j : Int) * (n : Int) = ((j * n : Nat) : Int) := (Int.natCast_mul j n).symm
        try refine run_s ?_
        refine st_drawM [28] [0, 1, 2, 3, 4, 5, 6, 7, 8, 9, 10, 11, 12, 13, 14, 15, 16, 17, 18, 19, 20, 21, 22, 23, 24, 25, 26, 27, 28] sym (by kernel_rfl) ?_
        try refine run_s ?_
        refine sl_y (yl_index sym rfl rfl rfl rfl rfl rfl ((rl.up uc sb).lt hw1) ((rl.up uc sb).get _ _ hw1).1) rfl rfl rfl rfl ?_; refine sl_y (yl_loadR1 sym rfl rfl rfl rfl (rl.up uc sb) hw1 rfl) rfl rfl rfl rfl ?_
        try refine run_s ?_
        refine sl_y (yl_index sym rfl rfl rfl rfl rfl rfl ((rx.up uc sb).lt hu1) ((rx.up uc sb).get _ _ hu1).1) rfl rfl rfl rfl ?_; refine sl_y (yl_loadR1 sym rfl rfl rfl rfl (rx.up uc sb) hu1 rfl) rfl rfl rfl rfl ?_
        try refine run_s ?_
        refine sl_y (yl_index sym rfl rfl rfl rfl rfl rfl ((rl.up uc sb).lt hw1) ((rl.up uc sb).get _ _ hw1).1) rfl rfl rfl rfl ?_; refine sl_y (yl_loadR1 sym rfl rfl rfl rfl (rl.up uc sb) hw1 rfl) rfl rfl rfl rfl ?_
        try refine run_s ?_
        refine sl_y (yl_index sym rfl rfl rfl rfl rfl rfl ((rx.up uc sb).lt hu2) ((rx.up uc sb).get _ _ hu2).1) rfl rfl rfl rfl ?_; refine sl_y (yl_loadR1 sym rfl rfl rfl rfl (rx.up uc sb) hu2 rfl) rfl rfl rfl rfl ?_
        try refine run_s ?_
        refine sl_y (yl_index sym rfl rfl rfl rfl rfl ( (show _ = ((j * n + k : Nat) : Int) by omega)) ((rw1.up uc sb).lt hu4) ((rw1.up uc sb).get _ _ hu4).1) rfl rfl rfl rfl ?_; refine sl_y (yl_loadR1 sym rfl rfl rfl rfl (rw1.up uc sb) hu4 rfl) rfl rfl rfl rfl ?_
        try refine run_s ?_
        rw [← e1]
        exact sk_again (E' := [(13, .int .i64 ((k : Int) + 1)), (12, .int .i64 (j : Int)), (11, .int .i64 (ws n f x j (k + 1))), (10, .slice q2 n c2), (9, .int .i64 (i : Int)), (5, .slice pl t cl), (2, .pointer (some ⟨b2, 0, none⟩)), (1, .int .i64 (m : Int))]) (m := n - (k + 1)) ⟨rfl, rfl, rfl, rfl, rfl, rfl, rfl, rfl, trivial⟩ (by omega) ⟨k + 1, by omega, rfl, rfl, uc, rfl, rfl⟩
      · obtain rfl : n = k := by omega
        have e1 : ws n f x (j + 1) 0 = ws n f x j n := Int.add_zero _
        rw [← e1]
        have hw6 : IntKind.i64.wrap (0 - -x j) = x j := by rw [IntWalk.i64_in _ (by omega)]; omega
        try refine run_s ?_
        refine st_drawM [] [0, 1, 2, 3, 4, 5, 6, 7, 8, 9, 10, 11, 12] sym (by kernel_rfl) ?_
        try refine run_s ?_
        refine sl_y (yl_index sym rfl rfl rfl rfl rfl rfl ((rl.up uc sb).lt hw1) ((rl.up uc sb).get _ _ hw1).1) rfl rfl rfl rfl ?_; refine sl_y (yl_loadR1 sym rfl rfl rfl rfl (rl.up uc sb) hw1 rfl) rfl rfl rfl rfl ?_
        try refine run_s ?_
        refine sl_y (yl_index sym rfl rfl rfl rfl rfl rfl ((rx.up uc sb).lt hu1) ((rx.up uc sb).get _ _ hu1).1) rfl rfl rfl rfl ?_; refine sl_y (yl_loadR1 sym rfl rfl rfl rfl (rx.up uc sb) hu1 rfl) rfl rfl rfl rfl ?_
        try refine run_s ?_
        refine sl_y (yl_index sym rfl rfl rfl rfl rfl rfl ((ry.up uc sb).lt hu3) ((ry.up uc sb).get _ _ hu3).1) rfl rfl rfl rfl ?_; refine sl_y (yl_loadR1 sym rfl rfl rfl rfl (ry.up uc sb) hu3 rfl) rfl rfl rfl rfl ?_
        try refine run_s ?_
        rw [hw6]
        refine st_ne rfl (fun h => absurd rfl h) (fun _ => ?_)
        try refine run_s ?_
        exact sk_again (E' := [(12, .int .i64 ((j : Int) + 1)), (11, .int .i64 (ws n f x (j + 1) 0)), (10, .slice q2 n c2), (9, .int .i64 (i : Int)), (5, .slice pl t cl), (2, .pointer (some ⟨b2, 0, none⟩)), (1, .int .i64 (m : Int))]) (m := n - (j + 1)) ⟨rfl, rfl, rfl, rfl, rfl, rfl, rfl, trivial⟩ (by omega) ⟨j + 1, by omega, rfl, rfl, uc, rfl, rfl⟩
    · obtain rfl : n = j := by omega
      have e1 : ws n f x n 0 = 2 * (m : Int) := by rw [← hval, ← ws_qp]; exact Int.add_zero _
      rw [e1]
      try refine run_s ?_
      refine st_ne rfl (fun h => absurd rfl h) (fun _ => ?_)
      try refine run_s ?_
      exact sk_again (E' := [(9, .int .i64 ((i : Int) + 1)), (5, .slice pl t cl), (2, .pointer (some ⟨b2, 0, none⟩)), (1, .int .i64 (m : Int))]) (m := t - (i + 1)) ⟨rfl, rfl, rfl, rfl, trivial⟩ (by omega) ⟨i + 1, by omega, rfl, rfl, uc, rfl, rfl⟩
  · try refine run_s ?_
    refine sl_call rfl rfl rfl rfl rfl rfl (fun _ => awake36_ct) ?_
    rintro v9 U9 D9 hU9 ⟨rfl, -, rfl⟩
    try rw [List.nil_append]
    repeat (first | refine run_S ?_ | refine w_box (fun _ => ?_) | refine w_al (fun _ => ?_))
    exact sk_ret [] sym rfl (.cons (.tmp rfl) .nil) uc sb (.inl rfl) rfl
end Go.Proofs.YtjfkodlddladhaaGreat
