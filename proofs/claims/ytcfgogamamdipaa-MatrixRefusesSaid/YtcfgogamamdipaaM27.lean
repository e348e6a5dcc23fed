/- Texts of this seat's own, merged: each begins with its own remark. -/
import Derived.Test.YtcfgogamamdipaaB112
import Derived.Test.YtcfgogamamdipaaHk
import Derived.Test.YtcfgogamamdipaaM23
import Derived.Test.YtcfgogamamdipaaM26
/- Walks of reference 09: Add, Trace. -/
namespace Go.Proofs.Ytcfgogamamdipaa
open Go.Hp
variable {G : World} {U U' : UH} {M M' : MH}

end Go.Proofs.Ytcfgogamamdipaa

/- Walks of matrix: Transpose, Apply, Trace. -/
namespace Go.Proofs.Ytcfgogamamdipaa
open Go.Hp
variable {G : World} {U U' : UH} {M M' : MH}

theorem mload_ct {r c b : Nat} {vm : Value} {A : Nat → Nat → Rat} (hm : Vm (Wq b) r c U vm A) (hb : b ≤ 10000000000) (hr : r ≤ 100000) (hc : c ≤ 100000) (hrc : r * c ≤ 100000000) :
    Ct Try.prog 35 [vm] G U M fun v U' D => Lg r c U' [] v A ∧ D = [] :=
  (mload_co hm hb hr hc hrc).settle.mono fun _ _ _ _ ⟨h1, _, _, ⟨h2, _⟩, _, h7, h8⟩ => ⟨Lg.of_s (h2.sett h7 h8), h1⟩

theorem mTranspose_co {r c b : Nat} {va : Value} {A : Nat → Nat → Rat} (ha : Vm (Wq b) r c U va A) (hb : b ≤ 10000000000) (hr : r ≤ 1000) (hc : c ≤ 1000) :
    Ct Try.prog 10 [va] G U M fun v U' D => ∃ vC, v = .tuple #[vC, .int .i64 0] ∧ Vmo c r U' D vC (La.tr A) ∧ ULe U U' := by
  have hrc : r * c ≤ 1000 * 1000 := Nat.mul_le_mul hr hc
  have hcr : c * r ≤ 1000 * 1000 := Nat.mul_le_mul hc hr
  have ha2 := ha
  obtain ⟨_, rfl, pa, cca, as1, rfl, -⟩ := ha
  refine ct_of_st Try.func10 rfl rfl rfl rfl ?_
  repeat (first | refine run_S ?_ | refine w_box (fun _ => ?_) | refine w_al (fun _ => ?_))
  rename_i b1 b2
  refine sl_call rfl rfl rfl rfl rfl rfl (fun _ => mValid_ct (r := (r : Int)) (c := (c : Int)) (n := r * c) (p := pa) (cc := cca) (by omega)) ?_
  rintro v U' D hU ⟨rfl, rfl, rfl⟩
  repeat (first | refine run_S ?_ | refine w_box (fun _ => ?_) | refine w_al (fun _ => ?_))
  rw [decide_eq_true (vld_of (by omega) (by omega))]
  repeat (first | refine run_S ?_ | refine w_box (fun _ => ?_) | refine w_al (fun _ => ?_))
  refine sl_call rfl rfl rfl rfl rfl rfl (fun _ => mblank_co (r := c) (c := r) (by omega) (by omega)) ?_
  rintro v1 U1 D1 hU1 ⟨⟨Do, F, pg, cg, svs, rfl, rfl, hro, hg⟩, -⟩
  have hsl := hro.len.1
  refine sl_perm (M' := (b2, .var (.agg #[.int .i64 0, .int .i64 0, .slice none 0 0]), TM) :: (b1, .var (.agg #[.int .i64 (r : Int), .int .i64 (c : Int), .slice pa (r * c) cca]), TM) :: (Do ++ (F.flatten ++ M))) ?_ pm
  try refine run_s ?_
  refine sl_call rfl rfl rfl rfl rfl rfl (fun _ => mload_ct (kept_m kept_w _ _ _ _ uc ha2) (by omega) (by omega) (by omega) (by omega)) ?_
  rintro v2 U2 D2 hU2 ⟨hl, rfl⟩
  rw [List.nil_append]
  obtain ⟨pl, cl, ls, rfl, hcl, rl, el⟩ := hl
  try refine run_s ?_
  refine st_loop (fun z E U' M' => ∃ (i : Nat) (F : List MH), i ≤ r ∧ Gs rO r U' svs F (fun a k => if k < i then A k a else 0) ∧ E = [(21, .int .i64 (i : Int)), (20, .int .i64 (r : Int)), (19, .slice pl r cl), (4, .slice pg c cg), (1, .pointer (some ⟨b1, 0, none⟩)), (2, .pointer (some ⟨b2, 0, none⟩))] ∧ ULe U2 U' ∧
      M' = (b2, .var (.agg #[.int .i64 0, .int .i64 0, .slice none 0 0]), TM) :: (b1, .var (.agg #[.int .i64 (r : Int), .int .i64 (c : Int), .slice pa (r * c) cca]), TM) :: (Do ++ (F.flatten ++ M)) ∧ z = r - i) (n0 := r)
    (E0 := [(21, .int .i64 ((0 : Nat) : Int)), (20, .int .i64 (r : Int)), (19, .slice pl r cl), (4, .slice pg c cg), (1, .pointer (some ⟨b1, 0, none⟩)), (2, .pointer (some ⟨b2, 0, none⟩))]) ⟨rfl, rfl, rfl, rfl, rfl, rfl, trivial⟩ ⟨0, F, by omega, by simpa using hg.up (U' := U2) uc, rfl, uc, rfl, rfl⟩ ?_
  clear hg
  rintro z E U3 M' ⟨i, F, hi, hg, rfl, hU3, rfl, rfl⟩
  try refine run_s ?_
  refine st_dec rfl (fun h => ?_) (fun h => ?_)
  · have hir : i < r := by omega
    obtain ⟨v1, hv1⟩ := rl.at hir
    obtain ⟨q1, d1, us, rfl, hd1, ru, eu⟩ := el _ _ hv1
    try refine run_s ?_
    refine sl_y (yl_index sym rfl rfl rfl rfl rfl rfl ((rl.up uc sb).lt hv1) ((rl.up uc sb).get _ _ hv1).1) rfl rfl rfl rfl ?_; refine sl_y (yl_loadR1 sym rfl rfl rfl rfl (rl.up uc sb) hv1 rfl) rfl rfl rfl rfl ?_
    try refine run_s ?_
    refine st_loop (fun z E U' M' => ∃ (j : Nat) (F : List MH), j ≤ c ∧ Gs rO r U' svs F (fun a k => if k < i ∨ (k = i ∧ a < j) then A k a else 0) ∧ E = [(28, .int .i64 (j : Int)), (27, .int .i64 (c : Int)), (26, .slice q1 c d1), (5, .int .i64 (i : Int)), (21, .int .i64 (i : Int)), (20, .int .i64 (r : Int)), (19, .slice pl r cl), (4, .slice pg c cg), (1, .pointer (some ⟨b1, 0, none⟩)), (2, .pointer (some ⟨b2, 0, none⟩))] ∧ ULe U3 U' ∧
        M' = (b2, .var (.agg #[.int .i64 0, .int .i64 0, .slice none 0 0]), TM) :: (b1, .var (.agg #[.int .i64 (r : Int), .int .i64 (c : Int), .slice pa (r * c) cca]), TM) :: (Do ++ (F.flatten ++ M)) ∧ z = c - j) (n0 := c)
      (E0 := [(28, .int .i64 ((0 : Nat) : Int)), (27, .int .i64 (c : Int)), (26, .slice q1 c d1), (5, .int .i64 (i : Int)), (21, .int .i64 (i : Int)), (20, .int .i64 (r : Int)), (19, .slice pl r cl), (4, .slice pg c cg), (1, .pointer (some ⟨b1, 0, none⟩)), (2, .pointer (some ⟨b2, 0, none⟩))]) ⟨rfl, rfl, rfl, rfl, rfl, rfl, rfl, rfl, rfl, rfl, trivial⟩ ⟨0, F, by omega, by simpa using hg, rfl, uc, rfl, rfl⟩ ?_
    clear hg
    rintro z E U4 M' ⟨j, F, hj, hg, rfl, hU4, rfl, rfl⟩
    try refine run_s ?_
    refine st_dec rfl (fun h2 => ?_) (fun h2 => ?_)
    · have hjc : j < c := by omega
      obtain ⟨v2, hv2⟩ := ru.at hjc
      obtain ⟨x1, rfl, hx1⟩ := eu _ _ hv2
      obtain ⟨q, c', vs, Dj, hvj, hFj, hcc, hR, hel, hjF, hput⟩ := hg.put (i := j) (by omega)
      try refine run_s ?_
      refine sl_y (yl_index sym rfl rfl rfl rfl rfl rfl ((ru.up uc sb).lt hv2) ((ru.up uc sb).get _ _ hv2).1) rfl rfl rfl rfl ?_; refine sl_y (yl_loadRs sym rfl rfl rfl rfl rfl (ru.up uc sb) hv2) rfl rfl rfl rfl ?_
      repeat (first | refine run_S ?_ | refine w_box (fun _ => ?_) | refine w_al (fun _ => ?_))
      rename_i b8
      refine st_drawM [6, 7] [0, 1, 2, 3, 4, 5, 6, 7] sym (by kernel_rfl) ?_
      try refine run_s ?_
      have rA := hro.at (U := U4) (M := (b8, .var x1.v, TR) :: (b2, .var (.agg #[.int .i64 0, .int .i64 0, .slice none 0 0]), TM) :: (b1, .var (.agg #[.int .i64 (r : Int), .int .i64 (c : Int), .slice pa (r * c) cca]), TM) :: (Do ++ (F.flatten ++ M))) sb
      refine sl_y (yl_index sym rfl rfl rfl rfl rfl rfl (rA.lt hvj) (rA.get _ _ hvj).1) rfl rfl rfl rfl ?_; refine sl_y (yl_loadR1 sym rfl rfl rfl rfl rA hvj rfl) rfl rfl rfl rfl ?_
      try refine run_s ?_
      refine w_addr (j := i) hir (hR.some (by omega)) ?_
      refine w_storeR (v := x1.v) (X := (b8, .var x1.v, TR) :: (b2, .var (.agg #[.int .i64 0, .int .i64 0, .slice none 0 0]), TM) :: (b1, .var (.agg #[.int .i64 (r : Int), .int .i64 (c : Int), .slice pa (r * c) cca]), TM) :: (Do ++ (((F.take j).flatten ++ (F.drop (j + 1)).flatten) ++ M))) hR (pick_perm (B := (b8, .var x1.v, TR) :: (b2, .var (.agg #[.int .i64 0, .int .i64 0, .slice none 0 0]), TM) :: (b1, .var (.agg #[.int .i64 (r : Int), .int .i64 (c : Int), .slice pa (r * c) cca]), TM) :: Do) (pickF hFj)) hir (fun D4 hr4 => ?_)
      refine sl_perm ?_ (pick_perm (B := (b8, .var x1.v, TR) :: (b2, .var (.agg #[.int .i64 0, .int .i64 0, .slice none 0 0]), TM) :: (b1, .var (.agg #[.int .i64 (r : Int), .int .i64 (c : Int), .slice pa (r * c) cca]), TM) :: Do) (putF hjF)).symm
      refine sl_anti (M' := (b2, .var (.agg #[.int .i64 0, .int .i64 0, .slice none 0 0]), TM) :: (b1, .var (.agg #[.int .i64 (r : Int), .int .i64 (c : Int), .slice pa (r * c) cca]), TM) :: (Do ++ ((F.set j D4).flatten ++ M))) ?_ (List.sublist_cons_self ..)
      try refine run_s ?_
      exact sk_again (E' := [(28, .int .i64 ((j : Int) + 1)), (27, .int .i64 (c : Int)), (26, .slice q1 c d1), (5, .int .i64 (i : Int)), (21, .int .i64 (i : Int)), (20, .int .i64 (r : Int)), (19, .slice pl r cl), (4, .slice pg c cg), (1, .pointer (some ⟨b1, 0, none⟩)), (2, .pointer (some ⟨b2, 0, none⟩))]) (m := c - (j + 1)) ⟨rfl, rfl, rfl, rfl, rfl, rfl, rfl, rfl, rfl, rfl, trivial⟩ (by omega)
        ⟨j + 1, F.set j D4, by omega, hput U4 D4 _ _ (ULe.refl _) hr4 (set_ok (fun k x hk hne => by
          have : Vq U4 x (if k < i ∨ (k = i ∧ j < j) then A k j else 0) := hel k x hk
          by_cases e : k < i
          · rw [if_pos (.inl e)] at this; rw [if_pos (.inl e)]; exact this
          · rw [if_neg (by omega)] at this; rw [if_neg (by omega)]; exact this) (by
          rw [if_pos (by omega)]
          exact ⟨x1, rfl, hx1.up uc sb⟩)) (fun k hk => by
          funext a
          by_cases e : a < i ∨ (a = i ∧ k < j)
          · rw [if_pos e, if_pos (by omega)]
          · rw [if_neg e, if_neg (by omega)]), rfl, uc, rfl, rfl⟩
    · have e : j = c := by omega
      subst e
      try refine run_s ?_
      exact sk_again (E' := [(21, .int .i64 ((i : Int) + 1)), (20, .int .i64 (r : Int)), (19, .slice pl r cl), (4, .slice pg j cg), (1, .pointer (some ⟨b1, 0, none⟩)), (2, .pointer (some ⟨b2, 0, none⟩))]) (m := r - (i + 1)) ⟨rfl, rfl, rfl, rfl, rfl, rfl, trivial⟩ (by omega)
        ⟨i + 1, F, by omega, hg.congr (n := j) hsl (fun _ _ _ _ h => h.len.1) (fun a k ha _ => by
          by_cases e : k < i + 1
          · rw [if_pos e, if_pos (by omega)]
          · rw [if_neg e, if_neg (by omega)]), rfl, uc, rfl, rfl⟩
  · have e : i = r := by omega
    subst e
    repeat (first | refine run_S ?_ | refine w_box (fun _ => ?_) | refine w_al (fun _ => ?_))
    have hgl := Gs.lg (U := U3) (M := (b2, .var (.agg #[.int .i64 0, .int .i64 0, .slice none 0 0]), TM) :: (b1, .var (.agg #[.int .i64 (i : Int), .int .i64 (c : Int), .slice pa (i * c) cca]), TM) :: (Do ++ (F.flatten ++ M))) hro hg.w sb
    refine sl_call rfl rfl rfl rfl rfl rfl (fun _ => mstore_ct (hgl.up uc sb) (by omega) (by omega) (by omega)) ?_
    rintro v6 U6 D6 hU6 ⟨⟨_, rfl, p6, c6, vs6, rfl, h6, e6⟩, -⟩
    refine sl_perm ?_ (perm2 (D := D6))
    repeat (first | refine run_S ?_ | refine w_box (fun _ => ?_) | refine w_al (fun _ => ?_))
    exact sk_ret D6 sym rfl (.cons (.cell 0 rfl rfl rfl) (.cons (.tmp rfl) .nil)) uc sb (.inl rfl) ⟨_, rfl, ⟨_, rfl, p6, c6, vs6, rfl, h6, e6.congr h6.len.1 fun k hk => by
      have hmod : k % i < i := Nat.mod_lt _ (by
        rcases Nat.eq_zero_or_pos i with h0 | h0
        · subst h0; simp at hk
        · exact h0)
      show (if k % i < i then A (k % i) (k / i) else 0) = A (k % i) (k / i)
      rw [if_pos hmod]⟩, uc⟩

theorem mApply_co {r c b : Nat} {vx va : Value} {f : Nat → Rat} {A : Nat → Nat → Rat} (hx : Ls (Wq b) 4 r U [] vx f) (ha : Vm (Wq b) r c U va A) (hb1 : 1 ≤ b) (hB : 1 + r * (2 * b + 2) + b ≤ 10000000000) (hr : r ≤ 1000) (hc : c ≤ 1000) :
    Ct Try.prog 27 [vx, va] G U M fun v U' D => ∃ vy, v = .tuple #[vy, .int .i64 0] ∧ (∃ p c' vs, vy = .slice p c c' ∧ c ≤ c' ∧ RowW TR 4 D p c vs ∧ El Vq U' vs (fun j => La.sm r fun i => f i * A i j)) ∧ ULe U U' := by
  have hrc : r * c ≤ 1000 * 1000 := Nat.mul_le_mul hr hc
  have ha2 := ha
  have hx2 := hx
  have sA : ∀ i j, i < r → j < c → Szq (A i j) b := fun i j hi hj => ha.sz hb1 hi hj
  obtain ⟨_, rfl, pa, cca, as1, rfl, -⟩ := ha
  obtain ⟨px, cx, xs, rfl, -, -, -⟩ := hx
  refine ct_of_st Try.func27 rfl rfl rfl rfl ?_
  repeat (first | refine run_S ?_ | refine w_box (fun _ => ?_) | refine w_al (fun _ => ?_))
  rename_i b3
  refine sl_call rfl rfl rfl rfl rfl rfl (fun _ => mValid_ct (r := (r : Int)) (c := (c : Int)) (n := r * c) (p := pa) (cc := cca) (by omega)) ?_
  rintro v U' D hU ⟨rfl, rfl, rfl⟩
  repeat (first | refine run_S ?_ | refine w_box (fun _ => ?_) | refine w_al (fun _ => ?_))
  rw [decide_eq_true (vld_of (by omega) (by omega))]
  repeat (first | refine run_S ?_ | refine w_box (fun _ => ?_) | refine w_al (fun _ => ?_))
  refine st_ne rfl (fun h => absurd rfl h) (fun _ => ?_)
  repeat (first | refine run_S ?_ | refine w_box (fun _ => ?_) | refine w_al (fun _ => ?_))
  refine st_draw [0, 1, 3, 4, 2, 5, 6, 7] sym (by kernel_rfl) ?_
  try refine run_s ?_
  refine sl_call rfl rfl rfl rfl rfl rfl (fun _ => mload_ct (kept_m kept_w _ _ _ _ uc ha2) (by omega) (by omega) (by omega) (by omega)) ?_
  rintro v2 U2 D2 hU2 ⟨hl, rfl⟩
  rw [List.nil_append]
  obtain ⟨pl, cl, ls, rfl, -⟩ := id hl
  try refine run_s ?_
  refine sl_call rfl rfl rfl rfl rfl rfl (fun _ => mtimes_co (b := b) (hx2.up kept_w uc (List.nil_sublist _)) (hl.up uc (List.nil_sublist _)) sA hb1 hB (by omega) (by omega)) ?_
  rintro v3 U3 D3 hU3 ⟨p3, c3, vs3, rfl, hc3, h3, e3, -⟩
  try refine run_s ?_
  exact sk_ret D3 sym rfl (.cons (.tmp rfl) (.cons (.tmp rfl) .nil)) uc sb (.inl rfl) ⟨_, rfl, ⟨p3, c3, vs3, rfl, hc3, h3, e3⟩, uc⟩

theorem mApply_ct {r c b : Nat} {vx va : Value} {f : Nat → Rat} {A : Nat → Nat → Rat} (hx : Ls (Wq b) 4 r U [] vx f) (ha : Vm (Wq b) r c U va A) (hb1 : 1 ≤ b) (hB : 1 + r * (2 * b + 2) + b ≤ 10000000000) (hr : r ≤ 1000) (hc : c ≤ 1000) :
    Ct Try.prog 27 [vx, va] G U M fun v U' D => ∃ vy, v = .tuple #[vy, .int .i64 0] ∧ Ls Vq 4 c U' [] vy (fun j => La.sm r fun i => f i * A i j) ∧ D = [] :=
  (mApply_co hx ha hb1 hB hr hc).settle.mono fun _ _ _ _ ⟨h1, _, _, ⟨vy, h2, ⟨p, c', vs, h3, h4, h5, h6⟩, _⟩, _, h7, h8⟩ => ⟨vy, h2, ⟨p, c', vs, h3, h4, h5.sett h8, h6.up kept_q h7⟩, h1⟩

theorem mTrace_ct {n b : Nat} {va : Value} {A : Nat → Nat → Rat} (ha : Vm (Wq b) n n U va A) (hb1 : 1 ≤ b) (hB : 1 + n * (b + 1) ≤ 10000000000) (hn : n ≤ 1000) :
    Ct Try.prog 25 [va] G U M fun v U' D => ∃ x : QV, v = .tuple #[x.v, .int .i64 0] ∧ x.nrm U' [] (La.sm n fun i => A i i) ∧ D = [] := by
  have hnn : n * n ≤ 1000 * 1000 := Nat.mul_le_mul hn hn
  have sA : ∀ i j, i < n → j < n → Szq (A i j) b := fun i j hi hj => ha.sz hb1 hi hj
  obtain ⟨_, rfl, pa, cca, as1, rfl, -, ra, ea⟩ := ha
  refine ct_of_st Try.func25 rfl rfl rfl rfl ?_
  repeat (first | refine run_S ?_ | refine w_box (fun _ => ?_) | refine w_al (fun _ => ?_))
  rename_i b1 b2
  refine sl_call rfl rfl rfl rfl rfl rfl (fun _ => msquare_ct (r := (n : Int)) (c := (n : Int)) (n := n * n) (p := pa) (cc := cca) (by omega)) ?_
  rintro v U' D hU ⟨rfl, rfl, rfl⟩
  repeat (first | refine run_S ?_ | refine w_box (fun _ => ?_) | refine w_al (fun _ => ?_))
  rw [decide_eq_true ⟨vld_of (by omega) (by omega), rfl⟩]
  repeat (first | refine run_S ?_ | refine w_box (fun _ => ?_) | refine w_al (fun _ => ?_))
  refine sl_call rfl rfl rfl rfl rfl rfl (fun _ => (qOf_ct (z := 0) (by decide) (by decide)).settle) ?_
  rintro v Uh1 D hU ⟨rfl, _, _, ⟨xh1, rfl, h1, -⟩, -, -, hs⟩
  replace h1 := h1.sett hs
  clear hs
  repeat (first | refine run_S ?_ | refine w_box (fun _ => ?_) | refine w_al (fun _ => ?_))
  rename_i b4
  refine st_loop (fun z E U' M' => ∃ (i : Nat) (xs : QV), i ≤ n ∧ xs.nrm U' [] (La.sm i fun k => A k k) ∧ E = [(5, .int .i64 (i : Int)), (4, .pointer (some ⟨b4, 0, none⟩)), (1, .pointer (some ⟨b1, 0, none⟩)), (2, .pointer (some ⟨b2, 0, none⟩))] ∧ ULe U U' ∧
      M' = (b4, .var xs.v, TR) :: (b2, .var zeroQV.v, TR) :: (b1, .var (.agg #[.int .i64 (n : Int), .int .i64 (n : Int), .slice pa (n * n) cca]), TM) :: M ∧ z = n - i) (n0 := n)
    (E0 := [(5, .int .i64 ((0 : Nat) : Int)), (4, .pointer (some ⟨b4, 0, none⟩)), (1, .pointer (some ⟨b1, 0, none⟩)), (2, .pointer (some ⟨b2, 0, none⟩))]) ⟨rfl, rfl, rfl, rfl, trivial⟩ ⟨0, xh1, by omega, h1, rfl, uc, rfl, rfl⟩ ?_
  rintro z E U1 M' ⟨i, xs, hi, hs, rfl, hU1, rfl, rfl⟩
  try refine run_s ?_
  refine st_dec rfl (fun h => ?_) (fun h => ?_)
  · have hin : i < n := by omega
    have hlt := ij_lt hin hin
    obtain ⟨v1, hv1⟩ := ra.at hlt
    obtain ⟨x1, rfl, hx1, hl1⟩ := ea _ _ hv1
    rw [fl_at hin] at hx1
    have hmul : i * (b + 1) ≤ n * (b + 1) := Nat.mul_le_mul_right _ (by omega)
    have hbb : b + 1 ≤ n * (b + 1) := Nat.le_mul_of_pos_left _ (by omega)
    have sS : Szq (La.sm i fun k => A k k) (1 + i * (b + 1)) := szq_sm fun k hk => sA k k (by omega) (by omega)
    try refine run_s ?_
    refine st_drawM [11, 12] [0, 1, 2, 3, 4, 5, 6, 7, 8, 9, 10, 11, 12] sym (by kernel_rfl) ?_
    try refine run_s ?_
    refine sl_y (yl_index sym rfl rfl rfl rfl rfl ( by omega) ((ra.up uc sb).lt hv1) ((ra.up uc sb).get _ _ hv1).1) rfl rfl rfl rfl ?_; refine sl_y (yl_loadRs sym rfl rfl rfl rfl rfl (ra.up uc sb) hv1) rfl rfl rfl rfl ?_
    try refine run_s ?_
    refine sl_call rfl rfl rfl rfl rfl rfl (fun _ => (qAdd_ct (hs.rep.up uc sb) (hs.le sS (by omega)) (hx1.up uc sb) ⟨Nat.le_trans hl1.1 (by omega), Nat.le_trans hl1.2 (by omega)⟩).settle) ?_
    rintro v Uh2 D hU ⟨rfl, _, _, ⟨xh2, rfl, h2, -⟩, -, -, hs⟩
    replace h2 := h2.sett hs
    clear hs
    repeat (first | refine run_S ?_ | refine w_box (fun _ => ?_) | refine w_al (fun _ => ?_))
    try refine run_s ?_
    exact sk_again (E' := [(5, .int .i64 ((i : Int) + 1)), (4, .pointer (some ⟨b4, 0, none⟩)), (1, .pointer (some ⟨b1, 0, none⟩)), (2, .pointer (some ⟨b2, 0, none⟩))]) (m := n - (i + 1)) ⟨rfl, rfl, rfl, rfl, trivial⟩ (by omega)
      ⟨i + 1, xh2, by omega, h2, rfl, uc, rfl, rfl⟩
  · have e : i = n := by omega
    subst e
    repeat (first | refine run_S ?_ | refine w_box (fun _ => ?_) | refine w_al (fun _ => ?_))
    exact sk_ret [] sym rfl (.cons (.cell 1 rfl rfl rfl) (.cons (.tmp rfl) .nil)) uc sb (.inl rfl) ⟨xs, rfl, hs.up uc sb, rfl⟩

end Go.Proofs.Ytcfgogamamdipaa

/- Walks of matrix: sums, differences, multiples. -/
namespace Go.Proofs.Ytcfgogamamdipaa
open Go.Hp
variable {G : World} {U U' : UH} {M M' : MH}

theorem each_co {c r n b : Nat} {cs : List Value} {op : Rat → Rat → Rat} {va vb : Value} {A B : Nat → Nat → Rat} (ha : Vm (Wq b) r n U va A) (hv : Vm (Wq b) r n U vb B)
    (hdo : ∀ (U' : UH) (M' : MH) (x y : QV) (p q : Rat), ULe U U' → M.Sublist M' → x.rep U' [] p → x.le b → y.rep U' [] q → y.le b → Ct Try.prog c ([x.v, y.v] ++ cs) G U' M' fun v U'' D => ∃ z : QV, v = z.v ∧ z.own D (op p q) ∧ ULe U' U'') (hr : r ≤ 1000) (hn : n ≤ 1000) :
    Ct Try.prog 33 [va, vb, .func (.func c) #[] cs.toArray] G U M fun v U' D => ∃ vC, v = .tuple #[vC, .int .i64 0] ∧ Vmo r n U' D vC (fun i j => op (A i j) (B i j)) ∧ ULe U U' := by
  have hrn : r * n ≤ 1000 * 1000 := Nat.mul_le_mul hr hn
  obtain ⟨_, rfl, pa, cca, as1, rfl, hca, ra, ea⟩ := ha
  obtain ⟨_, rfl, pb, ccb, bs1, rfl, hcb, rb, eb⟩ := hv
  refine ct_of_st Try.func33 rfl rfl rfl rfl ?_
  repeat (first | refine run_S ?_ | refine w_box (fun _ => ?_) | refine w_al (fun _ => ?_))
  rename_i b3 b4 b6
  refine sl_call rfl rfl rfl rfl rfl rfl (fun _ => mValid_ct (r := (r : Int)) (c := (n : Int)) (n := r * n) (p := pa) (cc := cca) (by omega)) ?_
  rintro v U' D hU ⟨rfl, rfl, rfl⟩
  repeat (first | refine run_S ?_ | refine w_box (fun _ => ?_) | refine w_al (fun _ => ?_))
  rw [decide_eq_true (vld_of (by omega) (by omega))]
  repeat (first | refine run_S ?_ | refine w_box (fun _ => ?_) | refine w_al (fun _ => ?_))
  refine sl_call rfl rfl rfl rfl rfl rfl (fun _ => mValid_ct (r := (r : Int)) (c := (n : Int)) (n := r * n) (p := pb) (cc := ccb) (by omega)) ?_
  rintro v U' D hU ⟨rfl, rfl, rfl⟩
  repeat (first | refine run_S ?_ | refine w_box (fun _ => ?_) | refine w_al (fun _ => ?_))
  rw [decide_eq_true (vld_of (by omega) (by omega))]
  repeat (first | refine run_S ?_ | refine w_box (fun _ => ?_) | refine w_al (fun _ => ?_))
  refine sl_gdec rfl rfl (fun h => absurd rfl h) (fun _ => ?_)
  repeat (first | refine run_S ?_ | refine w_box (fun _ => ?_) | refine w_al (fun _ => ?_))
  refine st_ne rfl (fun h => absurd rfl h) (fun _ => ?_)
  repeat (first | refine run_S ?_ | refine w_box (fun _ => ?_) | refine w_al (fun _ => ?_))
  refine st_drawM [10] [0, 1, 2, 3, 4, 5, 6, 7, 8, 9, 10] sym (by kernel_rfl) ?_
  try refine run_s ?_
  refine sl_make (m := r * n) (n := r * n) sym rfl rfl rfl rfl rfl rfl rfl rfl rfl (Nat.le_refl _) (by omega) (by omega) rfl rfl rfl rfl (fun bl => ?_)
  have hrow := rowO_make (e := TR) (s := 4) (b := bl) (n := r * n) (z := (.agg #[.bool false, .slice none 0 0, .bool false, .slice none 0 0])) rfl (by omega)
  repeat (first | refine run_S ?_ | refine w_box (fun _ => ?_) | refine w_al (fun _ => ?_))
  rename_i b8
  refine st_perm (M := (b8, .var (.agg #[.int .i64 (r : Int), .int .i64 (n : Int), .slice (some ⟨bl, 0, none⟩) (r * n) (r * n)]), TM) :: (bl, .arr (List.replicate (r * n) (.agg #[.bool false, .slice none 0 0, .bool false, .slice none 0 0])), TR) :: (b6, .var (.agg #[.int .i64 0, .int .i64 0, .slice none 0 0]), TM) :: (b4, .var (.agg #[.int .i64 (r : Int), .int .i64 (n : Int), .slice pb (r * n) ccb]), TM) :: (b3, .var (.agg #[.int .i64 (r : Int), .int .i64 (n : Int), .slice pa (r * n) cca]), TM) :: M) (M' := (b8, .var (.agg #[.int .i64 (r : Int), .int .i64 (n : Int), .slice (some ⟨bl, 0, none⟩) (r * n) (r * n)]), TM) :: (b6, .var (.agg #[.int .i64 0, .int .i64 0, .slice none 0 0]), TM) :: (b4, .var (.agg #[.int .i64 (r : Int), .int .i64 (n : Int), .slice pb (r * n) ccb]), TM) :: (b3, .var (.agg #[.int .i64 (r : Int), .int .i64 (n : Int), .slice pa (r * n) cca]), TM) :: ([(bl, .arr (List.replicate (r * n) (.agg #[.bool false, .slice none 0 0, .bool false, .slice none 0 0])), TR)] ++ M)) pm ?_
  refine st_loop (fun z E U' M' => ∃ (i : Nat) (us : List Value) (D : MH), i ≤ r * n ∧ RowO TR 4 D (some ⟨bl, 0, none⟩) (r * n) (r * n) us ∧ ElTo Vq U' i us (fl n fun i j => op (A i j) (B i j)) ∧ E = [(45, .int .i64 (i : Int)), (44, .int .i64 ((r * n : Nat) : Int)), (2, .func (.func c) #[] cs.toArray), (3, .pointer (some ⟨b3, 0, none⟩)), (4, .pointer (some ⟨b4, 0, none⟩)), (6, .pointer (some ⟨b6, 0, none⟩)), (8, .pointer (some ⟨b8, 0, none⟩))] ∧ ULe U U' ∧ M' = (b8, .var (.agg #[.int .i64 (r : Int), .int .i64 (n : Int), .slice (some ⟨bl, 0, none⟩) (r * n) (r * n)]), TM) :: (b6, .var (.agg #[.int .i64 0, .int .i64 0, .slice none 0 0]), TM) :: (b4, .var (.agg #[.int .i64 (r : Int), .int .i64 (n : Int), .slice pb (r * n) ccb]), TM) :: (b3, .var (.agg #[.int .i64 (r : Int), .int .i64 (n : Int), .slice pa (r * n) cca]), TM) :: (D ++ M) ∧ z = r * n - i) (n0 := r * n)
    (E0 := [(45, .int .i64 ((0 : Nat) : Int)), (44, .int .i64 ((r * n : Nat) : Int)), (2, .func (.func c) #[] cs.toArray), (3, .pointer (some ⟨b3, 0, none⟩)), (4, .pointer (some ⟨b4, 0, none⟩)), (6, .pointer (some ⟨b6, 0, none⟩)), (8, .pointer (some ⟨b8, 0, none⟩))]) ⟨rfl, rfl, rfl, rfl, rfl, rfl, rfl, trivial⟩ ⟨0, _, _, by omega, hrow, (fun k x hk => absurd hk (Nat.not_lt_zero k)), rfl, uc, rfl, rfl⟩ ?_
  clear hrow
  rintro z E U1 M' ⟨i, us, D, hi, hrow, hel, rfl, hU1, rfl, rfl⟩
  try refine run_s ?_
  refine st_dec rfl (fun h => ?_) (fun h => ?_)
  · have hin : i < r * n := by omega
    obtain ⟨v1, hv1⟩ := ra.at hin
    obtain ⟨x1, rfl, hx1, hl1⟩ := ea _ _ hv1
    obtain ⟨v2, hv2⟩ := rb.at hin
    obtain ⟨x2, rfl, hx2, hl2⟩ := eb _ _ hv2
    try refine run_s ?_
    refine st_drawM [15, 16] [0, 1, 2, 3, 4, 5, 6, 7, 8, 9, 10, 11, 12, 13, 14, 15, 16] sym (by kernel_rfl) ?_
    try refine run_s ?_
    refine sl_y (yl_index sym rfl rfl rfl rfl rfl rfl ((ra.up uc sb).lt hv1) ((ra.up uc sb).get _ _ hv1).1) rfl rfl rfl rfl ?_; refine sl_y (yl_loadRs sym rfl rfl rfl rfl rfl (ra.up uc sb) hv1) rfl rfl rfl rfl ?_
    try refine run_s ?_
    refine sl_y (yl_index sym rfl rfl rfl rfl rfl rfl ((rb.up uc sb).lt hv2) ((rb.up uc sb).get _ _ hv2).1) rfl rfl rfl rfl ?_; refine sl_y (yl_loadRs sym rfl rfl rfl rfl rfl (rb.up uc sb) hv2) rfl rfl rfl rfl ?_
    try refine run_s ?_
    refine sl_callV rfl rfl rfl rfl rfl rfl rfl (fun M2 => (hdo _ _ x1 x2 _ _ uc sb (hx1.up uc (List.Sublist.refl _)) hl1 (hx2.up uc (List.Sublist.refl _)) hl2).settle) ?_
    rintro v3 U3 D3 hU3 ⟨rfl, _, _, ⟨x3, rfl, h3, -⟩, -, -, hs⟩
    replace h3 := h3.sett hs
    clear hs
    rw [List.nil_append]
    try refine run_s ?_
    refine w_addr (j := i) hin rfl ?_
    refine w_storeR (v := x3.v) (X := (b8, .var (.agg #[.int .i64 (r : Int), .int .i64 (n : Int), .slice (some ⟨bl, 0, none⟩) (r * n) (r * n)]), TM) :: (b6, .var (.agg #[.int .i64 0, .int .i64 0, .slice none 0 0]), TM) :: (b4, .var (.agg #[.int .i64 (r : Int), .int .i64 (n : Int), .slice pb (r * n) ccb]), TM) :: (b3, .var (.agg #[.int .i64 (r : Int), .int .i64 (n : Int), .slice pa (r * n) cca]), TM) :: M) hrow pm hin (fun D4 hr4 => ?_)
    refine sl_perm (M' := (b8, .var (.agg #[.int .i64 (r : Int), .int .i64 (n : Int), .slice (some ⟨bl, 0, none⟩) (r * n) (r * n)]), TM) :: (b6, .var (.agg #[.int .i64 0, .int .i64 0, .slice none 0 0]), TM) :: (b4, .var (.agg #[.int .i64 (r : Int), .int .i64 (n : Int), .slice pb (r * n) ccb]), TM) :: (b3, .var (.agg #[.int .i64 (r : Int), .int .i64 (n : Int), .slice pa (r * n) cca]), TM) :: (D4 ++ M)) ?_ pm
    try refine run_s ?_
    exact sk_again (E' := [(45, .int .i64 ((i : Int) + 1)), (44, .int .i64 ((r * n : Nat) : Int)), (2, .func (.func c) #[] cs.toArray), (3, .pointer (some ⟨b3, 0, none⟩)), (4, .pointer (some ⟨b4, 0, none⟩)), (6, .pointer (some ⟨b6, 0, none⟩)), (8, .pointer (some ⟨b8, 0, none⟩))]) (m := r * n - (i + 1)) ⟨rfl, rfl, rfl, rfl, rfl, rfl, rfl, trivial⟩ (by omega)
      ⟨i + 1, _, D4, by omega, hr4, (hel.up kept_q uc).next ⟨x3, rfl, h3⟩, rfl, uc, rfl, rfl⟩
  · have e : i = r * n := by omega
    subst e
    repeat (first | refine run_S ?_ | refine w_box (fun _ => ?_) | refine w_al (fun _ => ?_))
    exact sk_ret D sym rfl (.cons (.cell 1 rfl rfl rfl) (.cons (.tmp rfl) .nil)) uc sb (.inl rfl) ⟨_, rfl, ⟨_, rfl, _, _, us, rfl, hrow, hel.all hrow.len.1⟩, uc⟩

theorem mAdd_co {r n b : Nat} {va vb : Value} {A B : Nat → Nat → Rat} (ha : Vm (Wq b) r n U va A) (hv : Vm (Wq b) r n U vb B) (hb : b ≤ 10000000000) (hr : r ≤ 1000) (hn : n ≤ 1000) :
    Ct Try.prog 8 [va, vb] G U M fun v U' D => ∃ vC, v = .tuple #[vC, .int .i64 0] ∧ Vmo r n U' D vC (fun i j => A i j + B i j) ∧ ULe U U' := by
  obtain ⟨_, rfl, pa, cca, as1, rfl, ra⟩ := id ha
  obtain ⟨_, rfl, pb, ccb, bs1, rfl, rb⟩ := id hv
  refine ct_of_st Try.func8 rfl rfl rfl rfl ?_
  repeat (first | refine run_S ?_ | refine w_box (fun _ => ?_) | refine w_al (fun _ => ?_))
  refine sl_call rfl rfl rfl rfl rfl rfl (fun _ => each_co (cs := []) (op := fun p q => p + q) (kept_m kept_w _ _ _ _ uc ha) (kept_m kept_w _ _ _ _ uc hv) (fun U' M' x y p q _ _ hx hxl hy hyl => qAdd_ct (hx.up (ULe.refl _) (List.nil_sublist _)) (by omega) (hy.up (ULe.refl _) (List.nil_sublist _)) (by omega)) hr hn) ?_
  rintro v1 U1 D1 hU1 ⟨_, rfl, ⟨_, rfl, p1, c1, s1, rfl, h1⟩, -⟩
  refine sl_perm ?_ (perm3 (D := D1))
  repeat (first | refine run_S ?_ | refine w_box (fun _ => ?_) | refine w_al (fun _ => ?_))
  exact sk_ret D1 sym rfl (.cons (.cell 0 rfl rfl rfl) (.cons (.tmp rfl) .nil)) uc sb (.inl rfl) ⟨_, rfl, ⟨_, rfl, p1, c1, s1, rfl, h1⟩, uc⟩

theorem mSub_co {r n b : Nat} {va vb : Value} {A B : Nat → Nat → Rat} (ha : Vm (Wq b) r n U va A) (hv : Vm (Wq b) r n U vb B) (hb : b ≤ 10000000000) (hr : r ≤ 1000) (hn : n ≤ 1000) :
    Ct Try.prog 20 [va, vb] G U M fun v U' D => ∃ vC, v = .tuple #[vC, .int .i64 0] ∧ Vmo r n U' D vC (fun i j => A i j - B i j) ∧ ULe U U' := by
  obtain ⟨_, rfl, pa, cca, as1, rfl, ra⟩ := id ha
  obtain ⟨_, rfl, pb, ccb, bs1, rfl, rb⟩ := id hv
  refine ct_of_st Try.func20 rfl rfl rfl rfl ?_
  repeat (first | refine run_S ?_ | refine w_box (fun _ => ?_) | refine w_al (fun _ => ?_))
  refine sl_call rfl rfl rfl rfl rfl rfl (fun _ => each_co (cs := []) (op := fun p q => p - q) (kept_m kept_w _ _ _ _ uc ha) (kept_m kept_w _ _ _ _ uc hv) (fun U' M' x y p q _ _ hx hxl hy hyl => qSub_ct (hx.up (ULe.refl _) (List.nil_sublist _)) (by omega) (hy.up (ULe.refl _) (List.nil_sublist _)) (by omega)) hr hn) ?_
  rintro v1 U1 D1 hU1 ⟨_, rfl, ⟨_, rfl, p1, c1, s1, rfl, h1⟩, -⟩
  refine sl_perm ?_ (perm3 (D := D1))
  repeat (first | refine run_S ?_ | refine w_box (fun _ => ?_) | refine w_al (fun _ => ?_))
  exact sk_ret D1 sym rfl (.cons (.cell 0 rfl rfl rfl) (.cons (.tmp rfl) .nil)) uc sb (.inl rfl) ⟨_, rfl, ⟨_, rfl, p1, c1, s1, rfl, h1⟩, uc⟩

/-- The closure in Scale. -/
theorem scale1_ct {b3 b : Nat} {xs y z : QV} {p q : Rat} (hs : xs.rep U [] p) (hsl : xs.le b) (hy : y.rep U [] q) (hyl : y.le b) (hb : b ≤ 10000000000) (hM : [(b3, Blk.var xs.v, TR)].Sublist M) :
    Ct Try.prog 49 [y.v, z.v, .pointer (some ⟨b3, 0, none⟩)] G U M fun v U' D => ∃ r : QV, v = r.v ∧ r.own D (p * q) ∧ ULe U U' := by
  obtain ⟨l1, l2, rfl⟩ := List.append_of_mem (List.singleton_sublist.1 hM)
  refine Ct.perm (M' := (b3, .var xs.v, TR) :: (l1 ++ l2)) ?_ List.perm_middle
  clear hM
  generalize l1 ++ l2 = M
  refine ct_of_st Try.func49 rfl rfl rfl rfl ?_
  repeat (first | refine run_S ?_ | refine w_box (fun _ => ?_) | refine w_al (fun _ => ?_))
  rename_i b1 b2 b5
  refine sl_call rfl rfl rfl rfl rfl rfl (fun _ => qMul_ct (hs.up uc (List.nil_sublist _)) (by omega) (hy.up uc (List.nil_sublist _)) (by omega)) ?_
  rintro v1 U1 D1 hU1 ⟨r1, rfl, h1, -⟩
  refine sl_perm ?_ (perm3 (D := D1))
  repeat (first | refine run_S ?_ | refine w_box (fun _ => ?_) | refine w_al (fun _ => ?_))
  exact sk_ret D1 sym rfl (.cons (.cell 0 rfl rfl rfl) .nil) uc sb (.inl rfl) ⟨r1, rfl, h1, uc⟩

theorem mScale_co {r n b : Nat} {va : Value} {A : Nat → Nat → Rat} {xs : QV} {q : Rat} (ha : Vm (Wq b) r n U va A) (hs : xs.rep U [] q) (hsl : xs.le b) (hb : b ≤ 10000000000) (hr : r ≤ 1000) (hn : n ≤ 1000) :
    Ct Try.prog 21 [va, xs.v] G U M fun v U' D => ∃ vC, v = .tuple #[vC, .int .i64 0] ∧ Vmo r n U' D vC (fun i j => q * A i j) ∧ ULe U U' := by
  obtain ⟨_, rfl, pa, cca, as1, rfl, ra⟩ := id ha
  refine ct_of_st Try.func21 rfl rfl rfl rfl ?_
  repeat (first | refine run_S ?_ | refine w_box (fun _ => ?_) | refine w_al (fun _ => ?_))
  rename_i b2 b3 b4
  refine sl_y (yl_makeFunc rfl rfl) rfl rfl rfl rfl ?_
  repeat (first | refine run_S ?_ | refine w_box (fun _ => ?_) | refine w_al (fun _ => ?_))
  refine sl_call rfl rfl rfl rfl rfl rfl (fun _ => each_co (cs := [.pointer (some ⟨b3, 0, none⟩)]) (op := fun p _ => q * p) (kept_m kept_w _ _ _ _ uc ha) (kept_m kept_w _ _ _ _ uc ha) (fun U' M' x y p _ hU hsub hx hxl hy hyl => scale1_ct (hs.up uc (List.Sublist.refl _)) hsl hx hxl hb (List.Sublist.trans sbk hsub)) hr hn) ?_
  rintro v1 U1 D1 hU1 ⟨_, rfl, ⟨_, rfl, p1, c1, s1, rfl, h1⟩, -⟩
  refine sl_perm ?_ (perm3 (D := D1))
  repeat (first | refine run_S ?_ | refine w_box (fun _ => ?_) | refine w_al (fun _ => ?_))
  exact sk_ret D1 sym rfl (.cons (.cell 0 rfl rfl rfl) (.cons (.tmp rfl) .nil)) uc sb (.inl rfl) ⟨_, rfl, ⟨_, rfl, p1, c1, s1, rfl, h1⟩, uc⟩

end Go.Proofs.Ytcfgogamamdipaa

/- The law of layer 9 on operations. -/
namespace Go.Proofs.Ytcfgogamamdipaa
open Go.Hp
variable {G : World} {U U' : UH} {M M' : MH}

theorem ct_setC {r c fn : Nat} {A : Nat → Nat → Rat} {args : List Value} (h : Ct Try.prog fn args G U M fun v U' D => ∃ vC, v = .tuple #[vC, .int .i64 0] ∧ Vmo r c U' D vC A ∧ ULe U U') :
    Ct Try.prog fn args G U M fun v U' D => ∃ vC, v = .tuple #[vC, .int .i64 0] ∧ Vm Vq r c U' vC A ∧ D = [] :=
  h.settle.mono fun _ _ _ _ ⟨h1, _, _, ⟨vC, h2, ⟨a, h3, h9⟩, _⟩, _, h7, h8⟩ => ⟨vC, h2, ⟨a, h3, h9.sett kept_q h7 h8⟩, h1⟩

theorem QV.v_inj {x y : QV} (h : x.v = y.v) : x = y := by
  obtain ⟨⟨a1, a2, a3, a4⟩, ⟨a5, a6, a7, a8⟩⟩ := x
  obtain ⟨⟨b1, b2, b3, b4⟩, ⟨b5, b6, b7, b8⟩⟩ := y
  simp only [QV.v, Value.agg.injEq, Array.mk.injEq, List.cons.injEq, Value.bool.injEq, Value.slice.injEq, and_true] at h
  obtain ⟨rfl, ⟨rfl, rfl, rfl⟩, rfl, ⟨rfl, rfl, rfl⟩⟩ := h
  rfl

end Go.Proofs.Ytcfgogamamdipaa
