/- Texts of this seat's own, merged: each begins with its own remark. -/
import Derived.Test.YtocjmbilepbokaaGreatM31
import Derived.Test.YtocjmbilepbokaaGreatM27
import Derived.Test.YtocjmbilepbokaaGreatM28
import Derived.Test.YtocjmbilepbokaaGreatB103
/- Walks of subspace: sums, annihilators, intersections, images, preimages. -/
namespace Go.Proofs.YtocjmbilepbokaaGreat
open Go.Hp
variable {G : World} {U U' : UH} {M M' : MH}

theorem mTranspose_ctv {r c b : Nat} {va : Value} {A : Nat → Nat → Rat} (ha : Vm (Wq b) r c U va A) (hb : b ≤ 10000000000) (hr : r ≤ 1000) (hc : c ≤ 1000) :
    Ct Tryz.prog 95 [va] G U M fun v U' D => ∃ vC, v = .tuple #[vC, .int .i64 0] ∧ Vm Vq c r U' vC (La.tr A) ∧ D = [] :=
  (mTranspose_co ha hb hr hc).settle.mono fun _ _ _ _ ⟨h1, _, _, ⟨vC, h2, ⟨a, h3, h9⟩, _⟩, _, h7, h8⟩ =>
    ⟨vC, h2, ⟨a, h3, h9.sett kept_q h7 h8⟩, h1⟩

theorem sann_ct {r n b : Nat} {v : Value} {B : Nat → Nat → Rat} {q : Nat → Nat} (h : Sv (Wq b) r n U v B) (hE : La.Ech r n B q) (hb1 : 1 ≤ b) (hb : b ≤ 40000) (hn : n ≤ 6) :
    Ct Tryz.prog 61 [v] G U M fun v U' D => ∃ (s : Nat) (N : Nat → Nat → Rat) (p : Nat → Nat), Sv Vq s n U' v N ∧ La.KerOf n r s (La.tr B) N p ∧ D = [] := by
  have hr := Nat.le_trans hE.le_n hn
  have hrn : r * n ≤ 6 * 6 := Nat.mul_le_mul hr hn
  have hg := gro_six hb
  have hg2 := La.gro_le (k := b) hn
  have hg3 : n * La.gro b n ≤ 6 * 164000000 := Nat.mul_le_mul hn (by omega)
  have h0 := h
  obtain ⟨_, rfl, pb, cb, bs, rfl, -⟩ := id h
  refine ct_of_st Tryz.func61 rfl rfl rfl rfl ?_
  repeat (first | refine run_S ?_ | refine w_box (fun _ => ?_) | refine w_al (fun _ => ?_))
  refine sl_call rfl rfl rfl rfl rfl rfl (fun _ => mTranspose_ctv (kept_m kept_w _ _ _ _ uc h.vm) (by omega) (by omega) (by omega)) ?_
  rintro v1 U1 D1 hU1 ⟨_, rfl, h1, rfl⟩
  try rw [List.nil_append]
  obtain ⟨_, rfl, p1, c1, s1, rfl, -⟩ := id h1
  repeat (first | refine run_S ?_ | refine w_box (fun _ => ?_) | refine w_al (fun _ => ?_))
  refine sl_call rfl rfl rfl rfl rfl rfl (fun _ => mKernel_ctg (b := b) ((kept_m kept_q _ _ _ _ uc h1).w fun i j hi hj => h0.sz hb1 hj hi) hb1 (by omega) (by omega) (by omega) (by omega)) ?_
  rintro v2 U2 D2 hU2 ⟨s, N, p, _, rfl, h2, rfl, hk, -⟩
  try rw [List.nil_append]
  obtain ⟨_, rfl, p2, c2, s2, rfl, -⟩ := id h2
  repeat (first | refine run_S ?_ | refine w_box (fun _ => ?_) | refine w_al (fun _ => ?_))
  refine sl_call rfl rfl rfl rfl rfl rfl (fun _ => sspace_ct kept_q (kept_m kept_q _ _ _ _ uc h2)) ?_
  rintro v3 U3 D3 hU3 ⟨h3, rfl⟩
  try rw [List.nil_append]
  obtain ⟨_, rfl, p3, c3, s3, rfl, -⟩ := id h3
  repeat (first | refine run_S ?_ | refine w_box (fun _ => ?_) | refine w_al (fun _ => ?_))
  refine sk_ret [] sym rfl (.cons (.cell 2 rfl rfl rfl) .nil) uc sb (.inl rfl) ?_
  exact ⟨s, N, p, h3, hk, rfl⟩

theorem sIntersect_ok {ra rb n b w : Nat} {va vb : Value} {A B : Nat → Nat → Rat} {qa qb : Nat → Nat} (ha : Sv (Wq b) ra n U va A) (hb : Sv (Wq b) rb n U vb B) (hA : La.Ech ra n A qa) (hB : La.Ech rb n B qb) (wA : Hw w ra n A) (wB : Hw w rb n B) (hw : w ≤ 1400) (hb1 : 1 ≤ b) (hbb : b ≤ 40000) (hn : n ≤ 6) :
    Ct Tryz.prog 14 [va, vb] G U M fun v U' D => ∃ (vI : Value) (i : Nat) (I : Nat → Nat → Rat) (p : Nat → Nat), v = .tuple #[vI, .int .i64 0] ∧ Sv Vq i n U' vI I ∧ La.Ech i n I p ∧ (∀ x, La.Sp i n I x ↔ La.Sp ra n A x ∧ La.Sp rb n B x) ∧ Gw (6 * w + 1) i n I ∧ D = [] := by
  obtain ⟨_, rfl, pa, ca, as1, rfl, -⟩ := id ha
  obtain ⟨_, rfl, pb, cb, bs, rfl, -⟩ := id hb
  refine ct_of_st Tryz.func14 rfl rfl rfl rfl ?_
  repeat (first | refine run_S ?_ | refine w_box (fun _ => ?_) | refine w_al (fun _ => ?_))
  rename_i b2 b3 b4
  refine sl_call rfl rfl rfl rfl rfl rfl (fun _ => spair_ok (kept_s kept_w _ _ _ _ uc ha) (kept_s kept_w _ _ _ _ uc hb) hA hB hb1 hbb hb1 hbb hn) ?_
  rintro v1 U1 D1 hU1 ⟨rfl, rfl⟩
  try rw [List.nil_append]
  repeat (first | refine run_S ?_ | refine w_box (fun _ => ?_) | refine w_al (fun _ => ?_))
  refine st_ne rfl (fun h => absurd rfl h) (fun _ => ?_)
  repeat (first | refine run_S ?_ | refine w_box (fun _ => ?_) | refine w_al (fun _ => ?_))
  refine st_drawM [7, 8, 9, 10] [0, 1, 2, 4, 3, 5, 6, 7, 8, 9, 10] sym (by kernel_rfl) ?_
  repeat (first | refine run_S ?_ | refine w_box (fun _ => ?_) | refine w_al (fun _ => ?_))
  refine sl_call rfl rfl rfl rfl rfl rfl (fun _ => sann_ct (kept_s kept_w _ _ _ _ uc ha) hA hb1 hbb hn) ?_
  rintro v2 U2 D2 hU2 ⟨s1, N1, p1, h1, k1, rfl⟩
  try rw [List.nil_append]
  obtain ⟨_, rfl, p1', c1, t1, rfl, -⟩ := id h1
  repeat (first | refine run_S ?_ | refine w_box (fun _ => ?_) | refine w_al (fun _ => ?_))
  refine sl_call rfl rfl rfl rfl rfl rfl (fun _ => sann_ct (kept_s kept_w _ _ _ _ uc hb) hB hb1 hbb hn) ?_
  rintro v3 U3 D3 hU3 ⟨s2, N2, p2, h2, k2, rfl⟩
  try rw [List.nil_append]
  obtain ⟨_, rfl, p2', c2, t2, rfl, -⟩ := id h2
  have g1 := wA.perp hA k1
  have g2 := wB.perp hB k2
  have w1 := g1.hw k1.ech hn
  have w2 := g2.hw k2.ech hn
  repeat (first | refine run_S ?_ | refine w_box (fun _ => ?_) | refine w_al (fun _ => ?_))
  refine sl_call rfl rfl rfl rfl rfl rfl (fun _ => srowsOf_co (b := 6 * w + 1) ((kept_s kept_q _ _ _ _ uc h1).w fun i j hi hj => w1.szq (by omega) hi hj) ((kept_s kept_q _ _ _ _ uc h2).w fun i j hi hj => w2.szq (by omega) hi hj) (Nat.le_trans k1.ech.le_n hn) (Nat.le_trans k2.ech.le_n hn) hn) ?_
  rintro v4 U4 D4 hU4 ⟨⟨P, C, vs, rfl, hrow, hel⟩, -⟩
  try rw [List.nil_append]
  refine sl_perm ?_ (perm3 (D := D4))
  have hs1 := Nat.le_trans k1.ech.le_n hn
  have hs2 := Nat.le_trans k2.ech.le_n hn
  repeat (first | refine run_S ?_ | refine w_box (fun _ => ?_) | refine w_al (fun _ => ?_))
  refine sl_call rfl rfl rfl rfl rfl rfl (fun _ => sreduced_ct (b := 6 * w + 1) (⟨P, C, vs, rfl, hrow.len.2.1, hrow.at sb, hel⟩ : Ls (Wr (6 * w + 1) n) 1 (s1 + s2) U4 _ _ _) (by omega) (by omega) (by omega) hn) ?_
  rintro v5 U5 D5 hU5 ⟨s3, S, p3, h3, e3, m3, rfl⟩
  try rw [List.nil_append]
  obtain ⟨_, rfl, p3', c3, t3, rfl, -⟩ := id h3
  have w3 := (g1.sum g2 m3).hw e3 hn
  repeat (first | refine run_S ?_ | refine w_box (fun _ => ?_) | refine w_al (fun _ => ?_))
  refine sl_call rfl rfl rfl rfl rfl rfl (fun _ => sann_ct (b := 6 * w + 1) ((kept_s kept_q _ _ _ _ uc h3).w fun i j hi hj => w3.szq (by omega) hi hj) e3 (by omega) (by omega) hn) ?_
  rintro v6 U6 D6 hU6 ⟨s4, I, p4, h4, k4, rfl⟩
  try rw [List.nil_append]
  obtain ⟨_, rfl, p4', c4, t4, rfl, -⟩ := id h4
  repeat (first | refine run_S ?_ | refine w_box (fun _ => ?_) | refine w_al (fun _ => ?_))
  refine sk_ret [] sym rfl (.cons (.cell 0 rfl rfl rfl) (.cons (.tmp rfl) .nil)) uc sb (.inl rfl) ?_
  exact ⟨_, s4, I, p4, rfl, h4, k4.ech, La.sp_inter hA hB k1 k2 m3 k4, w3.perp e3 k4, rfl⟩

end Go.Proofs.YtocjmbilepbokaaGreat

/- Walks of subspace: maps on invariant subspaces and on quotients, complements. -/
namespace Go.Proofs.YtocjmbilepbokaaGreat
open Go.Hp
variable {G : World} {U U' : UH} {M M' : MH}

end Go.Proofs.YtocjmbilepbokaaGreat

/- Walks of the helpers of layer 10's statements; spaces as they come. -/
namespace Go.Proofs.YtocjmbilepbokaaGreat
open Go.Hp
variable {G : World} {U U' : UH} {M M' : MH}

theorem short10_ct {n c1 : Nat} {p1 : Option Addr} {as1 : List Value} {f : Nat → Rat} (ra : RowAt U M 4 p1 n as1) (ea : El Xq U as1 f) (hn : n ≤ 9223372036854775807) :
    Ct Tryz.prog 18 [.slice p1 n c1] G U M fun v U' D => ∃ b : Bool, v = .bool b ∧ (b = true → El (Wq 1) U as1 f) ∧ U = U' ∧ D = [] := by
  refine ct_of_st Tryz.func18 rfl rfl rfl rfl ?_
  try refine run_s ?_
  refine st_loop (fun z E U' M' => ∃ i : Nat, i ≤ n ∧ (∀ k x, k < i → as1[k]? = some x → Wq 1 U x (f k)) ∧ E = [(3, .int .i64 (i : Int)), (0, .slice p1 n c1)] ∧ U = U' ∧ M = M' ∧ z = n - i) (n0 := n)
    (E0 := [(3, .int .i64 ((0 : Nat) : Int)), (0, .slice p1 n c1)]) ⟨rfl, rfl, trivial⟩ ⟨0, by omega, (fun k x h => absurd h (Nat.not_lt_zero k)), rfl, rfl, rfl, rfl⟩ ?_
  rintro z E U' M' ⟨i, hi, hall, rfl, rfl, rfl, rfl⟩
  try refine run_s ?_
  refine st_dec rfl (fun h => ?_) (fun h => ?_)
  · have hin : i < n := by omega
    obtain ⟨v1, hv1⟩ := ra.at hin
    obtain ⟨x1, rfl, hx1⟩ := ea _ _ hv1
    try refine run_s ?_
    refine w_addr (j := i) hin (ra.get _ _ hv1).1 ?_
    try refine run_s ?_
    refine sl_y (yl_loadRc (j := 1) (u := .slice x1.num.p x1.num.n x1.num.c) sym rfl rfl (by rw [elt_add, elt_add]) rfl rfl ra hv1 rfl) rfl rfl rfl rfl ?_
    try refine run_s ?_
    refine sl_gdec rfl rfl (fun h1 => ?_) (fun h1 => ?_)
    · try refine run_s ?_
      exact sk_ret [] sym rfl (.cons (.tmp rfl) .nil) uc sb (.inl rfl) ⟨false, rfl, (fun h => by cases h), rfl, rfl⟩
    · try refine run_s ?_
      refine w_addr (j := i) hin (ra.get _ _ hv1).1 ?_
      try refine run_s ?_
      refine sl_y (yl_loadRc (j := 3) (u := .slice x1.den.p x1.den.n x1.den.c) sym rfl rfl (by rw [elt_add, elt_add]) rfl rfl ra hv1 rfl) rfl rfl rfl rfl ?_
      try refine run_s ?_
      refine st_dec rfl (fun h2 => ?_) (fun h2 => ?_)
      · try refine run_s ?_
        exact sk_ret [] sym rfl (.cons (.tmp rfl) .nil) uc sb (.inl rfl) ⟨false, rfl, (fun h => by cases h), rfl, rfl⟩
      · try refine run_s ?_
        exact sk_again (E' := [(3, .int .i64 ((i : Int) + 1)), (0, .slice p1 n c1)]) (m := n - (i + 1)) ⟨rfl, rfl, trivial⟩ (by omega)
          ⟨i + 1, by omega, (fun k x hk hx => by
            rcases Nat.lt_or_eq_of_le (Nat.le_of_lt_succ hk) with h3 | h3
            · exact hall k x h3 hx
            · subst h3
              rw [hv1] at hx
              cases hx
              exact ⟨x1, rfl, hx1, ⟨by omega, by omega⟩⟩), rfl, rfl, rfl, rfl⟩
  · have e : i = n := by omega
    subst e
    try refine run_s ?_
    exact sk_ret [] sym rfl (.cons (.tmp rfl) .nil) uc sb (.inl rfl) ⟨true, rfl, (fun _ k x hk => hall k x (ra.lt hk) hk), rfl, rfl⟩

theorem light10_ct {m : Nat} {pl : Option Addr} {cl : Nat} {vs : List Value} {r c : Nat → Int} {n : Nat → Nat} {f : Nat → Nat → Rat} (rl : RowAt U M 3 pl m vs) (hv : ∀ k v, vs[k]? = some v → Raw U v (r k) (c k) (n k) (f k)) (hm2 : m ≤ 100) :
    Ct Tryz.prog 17 [.slice pl m cl] G U M fun v U' D => ∃ b : Bool, v = .bool b ∧ (b = true → ∀ k v, vs[k]? = some v → Lit 6 U v (r k) (c k) (n k) (f k)) ∧ U = U' ∧ D = [] := by
  refine ct_of_st Tryz.func17 rfl rfl rfl rfl ?_
  try refine run_s ?_
  refine st_loop (fun z E U' M' => ∃ i : Nat, i ≤ m ∧ (∀ k v, k < i → vs[k]? = some v → Lit 6 U v (r k) (c k) (n k) (f k)) ∧ E = [(3, .int .i64 (i : Int)), (0, .slice pl m cl)] ∧ U = U' ∧ M = M' ∧ z = m - i) (n0 := m)
    (E0 := [(3, .int .i64 ((0 : Nat) : Int)), (0, .slice pl m cl)]) ⟨rfl, rfl, trivial⟩ ⟨0, by omega, (fun k x h => absurd h (Nat.not_lt_zero k)), rfl, rfl, rfl, rfl⟩ ?_
  rintro z E U' M' ⟨i, hi, hall, rfl, rfl, rfl, rfl⟩
  try refine run_s ?_
  refine st_dec rfl (fun h => ?_) (fun h => ?_)
  · have him : i < m := by omega
    obtain ⟨v1, hv1⟩ := rl.at him
    have hraw := hv _ _ hv1
    obtain ⟨hr, hc, hn, _, rfl, hls⟩ := hraw
    obtain ⟨p1, c1, as1, rfl, hc1, ra, ea⟩ := id hls
    have hp := (rl.get _ _ hv1).1
    try refine run_s ?_
    refine w_addr (j := i) him hp ?_
    try refine run_s ?_
    refine sl_y (yl_loadRc (j := 2) (u := .slice p1 (n i) c1) sym rfl rfl (by rw [elt_add]) rfl rfl rl hv1 rfl) rfl rfl rfl rfl ?_
    try refine run_s ?_
    refine sl_gdec rfl rfl (fun h1 => ?_) (fun h1 => ?_)
    · try refine run_s ?_
      exact sk_ret [] sym rfl (.cons (.tmp rfl) .nil) uc sb (.inl rfl) ⟨false, rfl, (fun h => by cases h), rfl, rfl⟩
    · try refine run_s ?_
      refine sl_y (yl_index sym rfl rfl rfl rfl rfl rfl (rl.lt hv1) (rl.get _ _ hv1).1) rfl rfl rfl rfl ?_; refine sl_y (yl_loadRs sym rfl rfl rfl rfl rfl rl hv1) rfl rfl rfl rfl ?_
      refine sl_call rfl rfl rfl rfl rfl rfl (fun _ => m9Valid_ct (r := r i) (c := c i) (p := p1) (cc := c1) hn) ?_
      rintro v U' D hU ⟨rfl, rfl, rfl⟩
      repeat (first | refine run_S ?_ | refine w_box (fun _ => ?_) | refine w_al (fun _ => ?_))
      by_cases hV : Vld (r i) (c i) (n i)
      · rw [decide_eq_true hV]
        try refine run_s ?_
        refine w_addr (j := i) him hp ?_
        try refine run_s ?_
        refine sl_y (yl_loadRc (j := 0) (u := .int .i64 (r i)) sym rfl rfl (by rw [elt_add]) rfl rfl rl hv1 rfl) rfl rfl rfl rfl ?_
        try refine run_s ?_
        refine sl_gdec rfl rfl (fun h2 => ?_) (fun h2 => ?_)
        · try refine run_s ?_
          exact sk_ret [] sym rfl (.cons (.tmp rfl) .nil) uc sb (.inl rfl) ⟨false, rfl, (fun h => by cases h), rfl, rfl⟩
        · try refine run_s ?_
          refine w_addr (j := i) him hp ?_
          try refine run_s ?_
          refine sl_y (yl_loadRc (j := 1) (u := .int .i64 (c i)) sym rfl rfl (by rw [elt_add]) rfl rfl rl hv1 rfl) rfl rfl rfl rfl ?_
          try refine run_s ?_
          refine sl_gdec rfl rfl (fun h3 => ?_) (fun h3 => ?_)
          · try refine run_s ?_
            exact sk_ret [] sym rfl (.cons (.tmp rfl) .nil) uc sb (.inl rfl) ⟨false, rfl, (fun h => by cases h), rfl, rfl⟩
          · try refine run_s ?_
            refine w_addr (j := i) him hp ?_
            try refine run_s ?_
            refine sl_y (yl_loadRc (j := 2) (u := .slice p1 (n i) c1) sym rfl rfl (by rw [elt_add]) rfl rfl rl hv1 rfl) rfl rfl rfl rfl ?_
            try refine run_s ?_
            refine sl_call rfl rfl rfl rfl rfl rfl (fun _ => short10_ct (ra.ls uc) ea (by omega)) ?_
            rintro v4 U4 D4 hU ⟨b, rfl, hb, rfl, rfl⟩
            cases b
            · try refine run_s ?_
              exact sk_ret [] sym rfl (.cons (.tmp rfl) .nil) uc sb (.inl rfl) ⟨false, rfl, (fun h => by cases h), rfl, rfl⟩
            · try refine run_s ?_
              exact sk_again (E' := [(3, .int .i64 ((i : Int) + 1)), (0, .slice pl m cl)]) (m := m - (i + 1)) ⟨rfl, rfl, trivial⟩ (by omega)
                ⟨i + 1, by omega, (fun k x hk hx => by
                  rcases Nat.lt_or_eq_of_le (Nat.le_of_lt_succ hk) with h3 | h3
                  · exact hall k x h3 hx
                  · subst h3
                    rw [hv1] at hx
                    cases hx
                    have hnb : n k ≤ 6 * 6 := by omega
                    exact ⟨hnb, (fun _ => ⟨by omega, by omega⟩), _, rfl, p1, c1, as1, rfl, hc1, ra, hb rfl⟩), rfl, rfl, rfl, rfl⟩
      · rw [decide_eq_false hV]
        try refine run_s ?_
        refine w_addr (j := i) him hp ?_
        try refine run_s ?_
        refine sl_y (yl_loadRc (j := 2) (u := .slice p1 (n i) c1) sym rfl rfl (by rw [elt_add]) rfl rfl rl hv1 rfl) rfl rfl rfl rfl ?_
        try refine run_s ?_
        refine sl_call rfl rfl rfl rfl rfl rfl (fun _ => short10_ct (ra.ls uc) ea (by omega)) ?_
        rintro v4 U4 D4 hU ⟨b, rfl, hb, rfl, rfl⟩
        cases b
        · try refine run_s ?_
          exact sk_ret [] sym rfl (.cons (.tmp rfl) .nil) uc sb (.inl rfl) ⟨false, rfl, (fun h => by cases h), rfl, rfl⟩
        · try refine run_s ?_
          exact sk_again (E' := [(3, .int .i64 ((i : Int) + 1)), (0, .slice pl m cl)]) (m := m - (i + 1)) ⟨rfl, rfl, trivial⟩ (by omega)
            ⟨i + 1, by omega, (fun k x hk hx => by
              rcases Nat.lt_or_eq_of_le (Nat.le_of_lt_succ hk) with h3 | h3
              · exact hall k x h3 hx
              · subst h3
                rw [hv1] at hx
                cases hx
                have hnb : n k ≤ 6 * 6 := by omega
                exact ⟨hnb, (fun h => absurd h hV), _, rfl, p1, c1, as1, rfl, hc1, ra, hb rfl⟩), rfl, rfl, rfl, rfl⟩
  · have e : i = m := by omega
    subst e
    try refine run_s ?_
    exact sk_ret [] sym rfl (.cons (.tmp rfl) .nil) uc sb (.inl rfl) ⟨true, rfl, (fun _ k v hk => hall k v (rl.lt hk) hk), rfl, rfl⟩

theorem bSameSpace_ct {r n r' n' : Nat} {vx vy : Value} {A B : Nat → Nat → Rat} (hx : Sv Vq r n U vx A) (hy : Sv Vq r' n' U vy B) (hr : r * n ≤ 1000000000) (hr' : r' * n' ≤ 1000000000) :
    Ct Tryz.prog 16 [vx, vy] G U M fun v U' D => ∃ b : Bool, v = .bool b ∧ (b = true ↔ r = r' ∧ n = n' ∧ ∀ i j, i < r → j < n → A i j = B i j) ∧ U = U' ∧ D = [] := by
  obtain ⟨_, rfl, px, cx, xs, rfl, -⟩ := id hx
  obtain ⟨_, rfl, py, cy, ys, rfl, -⟩ := id hy
  refine ct_of_st Tryz.func16 rfl rfl rfl rfl ?_
  repeat (first | refine run_S ?_ | refine w_box (fun _ => ?_) | refine w_al (fun _ => ?_))
  refine sl_gdec rfl rfl (fun h1 => ?_) (fun h1 => ?_)
  · repeat (first | refine run_S ?_ | refine w_box (fun _ => ?_) | refine w_al (fun _ => ?_))
    refine sl_call rfl rfl rfl rfl rfl rfl (fun _ => bSameMatrix_ct (kept_m kept_q _ _ _ _ uc hx.vm) (kept_m kept_q _ _ _ _ uc hy.vm) hr hr') ?_
    rintro v1 U1 D1 hU1 ⟨b, rfl, hb, rfl, rfl⟩
    try rw [List.nil_append]
    repeat (first | refine run_S ?_ | refine w_box (fun _ => ?_) | refine w_al (fun _ => ?_))
    exact sk_ret [] sym rfl (.cons (.tmp rfl) .nil) uc sb (.inl rfl) ⟨b, rfl, hb, rfl, rfl⟩
  · repeat (first | refine run_S ?_ | refine w_box (fun _ => ?_) | refine w_al (fun _ => ?_))
    exact sk_ret [] sym rfl (.cons (.tmp rfl) .nil) uc sb (.inl rfl) ⟨false, rfl, ⟨(fun h => by cases h), fun h => absurd (congrArg Int.ofNat h.2.1) h1⟩, rfl, rfl⟩

theorem none10_ct : Ct Tryz.prog 32 [.agg #[.int .i64 0, .int .i64 0, .int .i64 0, .slice none 0 0]] G U M fun v U' D => v = .bool true ∧ U = U' ∧ D = [] := by
  refine ct_of_st Tryz.func32 rfl rfl rfl rfl ?_
  repeat (first | refine run_S ?_ | refine w_box (fun _ => ?_) | refine w_al (fun _ => ?_))
  refine sl_gdec rfl rfl (fun _ => ?_) (fun h => absurd rfl h)
  repeat (first | refine run_S ?_ | refine w_box (fun _ => ?_) | refine w_al (fun _ => ?_))
  refine sl_gdec rfl rfl (fun _ => ?_) (fun h => absurd rfl h)
  repeat (first | refine run_S ?_ | refine w_box (fun _ => ?_) | refine w_al (fun _ => ?_))
  refine sl_gdec rfl rfl (fun _ => ?_) (fun h => absurd rfl h)
  repeat (first | refine run_S ?_ | refine w_box (fun _ => ?_) | refine w_al (fun _ => ?_))
  rw [show dec (((0 : Nat) : Int) = 0) = true from dec_true rfl]
  exact sk_ret [] sym rfl (.cons (.tmp rfl) .nil) uc sb (.inl rfl) ⟨rfl, rfl, rfl⟩

/-- A space as it comes. -/
def RawS (U : UH) (v : Value) (d r c : Int) (n : Nat) (f : Nat → Rat) : Prop :=
  (-9223372036854775808 ≤ d ∧ d ≤ 9223372036854775807) ∧ ∃ a, v = .agg #[.int .i64 d, .int .i64 r, .int .i64 c, a] ∧ Raw U (.agg #[.int .i64 r, .int .i64 c, a]) r c n f
theorem RawS.up {v : Value} {d r c : Int} {n : Nat} {f : Nat → Rat} (h : RawS U v d r c n f) (hU : ULe U U') : RawS U' v d r c n f := by
  obtain ⟨h1, a, h2, h3⟩ := h
  exact ⟨h1, a, h2, h3.up hU⟩
/-- A space whose basis is small. -/
def LitS (U : UH) (v : Value) (d r c : Int) (n : Nat) (f : Nat → Rat) : Prop :=
  ∃ a, v = .agg #[.int .i64 d, .int .i64 r, .int .i64 c, a] ∧ Lit 6 U (.agg #[.int .i64 r, .int .i64 c, a]) r c n f
theorem LitS.up {v : Value} {d r c : Int} {n : Nat} {f : Nat → Rat} (h : LitS U v d r c n f) (hU : ULe U U') : LitS U' v d r c n f := by
  obtain ⟨a, h2, h3⟩ := h
  exact ⟨a, h2, h3.up hU⟩
/-- A space is valid. -/
def VldS (d r c : Int) (n : Nat) (f : Nat → Rat) : Prop := Vld r c n ∧ d = c ∧ ∃ q, La.Ech r.toNat c.toNat (fun i j => f (i * c.toNat + j)) q
theorem VldS.get {v : Value} {d r c : Int} {n : Nat} {f : Nat → Rat} (h : VldS d r c n f) (hl : LitS U v d r c n f) : ∃ (R C : Nat) (q : Nat → Nat), d = (C : Int) ∧ r = (R : Int) ∧ c = (C : Int) ∧ R ≤ 6 ∧ C ≤ 6 ∧ Sv (Wq 1) R C U v (fun i j => f (i * C + j)) ∧ La.Ech R C (fun i j => f (i * C + j)) q := by
  obtain ⟨h1, rfl, q, h2⟩ := h
  obtain ⟨a, rfl, h3⟩ := hl
  obtain ⟨R, C, rfl, rfl, hR, hC, hm⟩ := h3.vm h1
  exact ⟨R, C, q, rfl, rfl, rfl, hR, hC, hm.sv, h2⟩

theorem sCheck_any {v : Value} {d r c : Int} {n : Nat} {f : Nat → Rat} (h : LitS U v d r c n f) :
    Ct Tryz.prog 31 [v] G U M fun v _ D => D = [] ∧ ∃ e : Int, v = .int .i64 e ∧ (e = 0 ∨ e = 3) ∧ (e = 0 ↔ VldS d r c n f) := by
  obtain ⟨a, rfl, hl⟩ := h
  by_cases hV : Vld r c n
  · obtain ⟨R, C, rfl, rfl, hR, hC, hm⟩ := hl.vm hV
    obtain ⟨_, he, p, cc, vs, rfl, -⟩ := id hm
    simp only [Value.agg.injEq, Array.mk.injEq, List.cons.injEq, and_true, true_and] at he
    subst he
    exact (sCheck_ct hm (Nat.le_refl 1) (by decide) (by omega) hC).mono fun _ _ _ _ ⟨h1, e, h2, h3, h4⟩ => ⟨h1, e, h2, h3, h4.trans ⟨fun ⟨h5, h6⟩ => ⟨hV, h5, h6⟩, fun ⟨_, h5, h6⟩ => ⟨h5, h6⟩⟩⟩
  · obtain ⟨hn, -, _, he, p, cc, vs, rfl, -⟩ := hl
    simp only [Value.agg.injEq, Array.mk.injEq, List.cons.injEq, and_true, true_and] at he
    subst he
    refine ct_of_st Tryz.func31 rfl rfl rfl rfl ?_
    repeat (first | refine run_S ?_ | refine w_box (fun _ => ?_) | refine w_al (fun _ => ?_))
    refine sl_call rfl rfl rfl rfl rfl rfl (fun _ => mEchelon_no (r := r) (c := c) (n := n) (p := p) (cc := cc) (by omega) hV) ?_
    rintro v1 U1 D1 hU1 ⟨rfl, r1, c1, p1, n1, cc1, p2, n2, c2, rfl⟩
    try rw [List.nil_append]
    repeat (first | refine run_S ?_ | refine w_box (fun _ => ?_) | refine w_al (fun _ => ?_))
    refine sl_gdec rfl rfl (fun _ => ?_) (fun h => absurd (by decide) h)
    repeat (first | refine run_S ?_ | refine w_box (fun _ => ?_) | refine w_al (fun _ => ?_))
    exact sk_ret [] sym rfl (.cons (.tmp rfl) .nil) uc sb (.inl rfl) ⟨rfl, 3, rfl, .inr rfl, (fun h => by cases h), fun h => absurd h.1 hV⟩

theorem r10Valid_any {v : Value} {d r c : Int} {n : Nat} {f : Nat → Rat} (h : LitS U v d r c n f) :
    Ct Tryz.prog 21 [v] G U M fun v _ D => D = [] ∧ ∃ s : Bool, v = .bool s ∧ (s = true ↔ VldS d r c n f) := by
  obtain ⟨a, rfl, hl⟩ := h
  by_cases hV : Vld r c n
  · obtain ⟨R, C, rfl, rfl, hR, hC, hm⟩ := hl.vm hV
    obtain ⟨_, he, p, cc, vs, rfl, -⟩ := id hm
    simp only [Value.agg.injEq, Array.mk.injEq, List.cons.injEq, and_true, true_and] at he
    subst he
    exact (r10Valid_ct hm hR hC).mono fun _ _ _ _ ⟨h1, e, h2, h4⟩ => ⟨h1, e, h2, h4.trans ⟨fun ⟨h5, h6⟩ => ⟨hV, h5, h6⟩, fun ⟨_, h5, h6⟩ => ⟨h5, h6⟩⟩⟩
  · obtain ⟨hn, -, _, he, p, cc, vs, rfl, -⟩ := hl
    simp only [Value.agg.injEq, Array.mk.injEq, List.cons.injEq, and_true, true_and] at he
    subst he
    refine ct_of_st Tryz.func21 rfl rfl rfl rfl ?_
    repeat (first | refine run_S ?_ | refine w_box (fun _ => ?_) | refine w_al (fun _ => ?_))
    refine sl_call rfl rfl rfl rfl rfl rfl (fun _ => m9Valid_ct (r := r) (c := c) (p := p) (cc := cc) (n := n) (by omega)) ?_
    rintro v U' D hU ⟨rfl, rfl, rfl⟩
    repeat (first | refine run_S ?_ | refine w_box (fun _ => ?_) | refine w_al (fun _ => ?_))
    rw [decide_eq_false hV]
    repeat (first | refine run_S ?_ | refine w_box (fun _ => ?_) | refine w_al (fun _ => ?_))
    exact sk_ret [] sym rfl (.cons (.tmp rfl) .nil) uc sb (.inl rfl) ⟨rfl, false, rfl, (fun h => by cases h), fun h => absurd h.1 hV⟩

end Go.Proofs.YtocjmbilepbokaaGreat

/- Walks of the helpers of layer 10's statements: fit and awake. -/
namespace Go.Proofs.YtocjmbilepbokaaGreat
open Go.Hp
variable {G : World} {U U' : UH} {M M' : MH}

end Go.Proofs.YtocjmbilepbokaaGreat
