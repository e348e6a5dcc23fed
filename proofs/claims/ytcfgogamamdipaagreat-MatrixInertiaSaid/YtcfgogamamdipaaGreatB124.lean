/- Walks of matrix: symmetric, mix, turn. -/
import Derived.Test.YtcfgogamamdipaaGreatB121
import Derived.Test.YtcfgogamamdipaaGreatB109
import Derived.Test.YtcfgogamamdipaaGreatLl
namespace Go.Proofs.YtcfgogamamdipaaGreat
open Go.Hp
variable {G : World} {U U' : UH} {M M' : MH}

/-- An element of a grid is read. -/
theorem Gs.read {c i j : Nat} {svs : List Value} {F : List MH} {A : Nat → Nat → Rat} (h : Gs rO c U svs F A) (hi : i < svs.length) (hj : j < c) (hM : F.flatten.Sublist M) :
    ∃ q c' vs x, svs[i]? = some (.slice q c c') ∧ RowAt U M 4 q c vs ∧ vs[j]? = some (QV.v x) ∧ x.nrm U [] (A i j) := by
  obtain ⟨q, c', vs, D, hv, hF, -, hR, hel, -, -⟩ := h.put hi
  have r := hR.at (U := U) (M := M) ((List.sublist_flatten_of_mem (List.mem_of_getElem? hF)).trans hM)
  obtain ⟨v, hv2⟩ := r.at hj
  obtain ⟨x, rfl, hx⟩ := hel _ _ hv2
  exact ⟨q, c', vs, x, hv, r, hv2, hx⟩
/-- An element of a grid is written. -/
theorem Gs.put1 {c i j : Nat} {svs : List Value} {F : List MH} {A : Nat → Nat → Rat} (h : Gs rO c U svs F A) (hi : i < svs.length) :
    ∃ q c' vs D, svs[i]? = some (.slice q c c') ∧ F[i]? = some D ∧ i < F.length ∧ rO D q c c' vs ∧
      ∀ (U' : UH) (D' : MH) (x : QV) (y : Rat), ULe U U' → rO D' q c c' (vs.set j x.v) → x.nrm U' [] y → Gs rO c U' svs (F.set i D') (fun a b => if a = i ∧ b = j then y else A a b) := by
  obtain ⟨q, c', vs, D, hv, hF, -, hR, hel, hiF, hput⟩ := h.put hi
  refine ⟨q, c', vs, D, hv, hF, hiF, hR, fun U' D' x y hU hR' hx => hput U' D' _ _ hU hR' (set_ok (fun k u hk hne => ?_) ?_) (fun k hk => ?_)⟩
  · have := (hel.up (U' := U') kept_q hU) k u hk
    show Vq U' u (if i = i ∧ k = j then y else A i k)
    rw [if_neg fun h => hne h.2]; exact this
  · show Vq U' x.v (if i = i ∧ j = j then y else A i j)
    rw [if_pos ⟨rfl, rfl⟩]; exact ⟨x, rfl, hx⟩
  · funext b
    rw [if_neg fun h => hk h.1]

theorem msymmetric_ct {n b : Nat} {vg : Value} {A : Nat → Nat → Rat} (hg : Lg n n U M vg A) (sA : ∀ i j, i < n → j < n → Szq (A i j) b) (hb : b ≤ 10000000000) (hn : n ≤ 1000) :
    Ct Tryz.prog 92 [vg] G U M fun v U' D => ∃ s : Bool, v = .bool s ∧ (s = true ↔ ∀ i j, i < n → j < i → A i j = A j i) ∧ D = [] := by
  obtain ⟨pg, cg, svs, rfl, -, rg, eg⟩ := hg
  refine ct_of_st Tryz.func92 rfl rfl rfl rfl ?_
  try refine run_s ?_
  refine st_loop (fun z E U' M' => ∃ i : Nat, i ≤ n ∧ (∀ a b, a < i → b < a → A a b = A b a) ∧ E = [(7, .int .i64 (i : Int)), (6, .int .i64 (n : Int)), (0, .slice pg n cg)] ∧ ULe U U' ∧ M' = M ∧ z = n - i) (n0 := n)
    (E0 := [(7, .int .i64 ((0 : Nat) : Int)), (6, .int .i64 (n : Int)), (0, .slice pg n cg)]) ⟨rfl, rfl, rfl, trivial⟩ ⟨0, by omega, (fun a b h => absurd h (Nat.not_lt_zero a)), rfl, uc, rfl, rfl⟩ ?_
  rintro z E U1 M' ⟨i, hi, hsy, rfl, hU1, rfl, rfl⟩
  try refine run_s ?_
  refine st_dec rfl (fun h => ?_) (fun h => ?_)
  · have hin : i < n := by omega
    try refine run_s ?_
    refine st_loop (fun z E U' M2 => ∃ j : Nat, j ≤ i ∧ (∀ b, b < j → A i b = A b i) ∧ E = [(11, .int .i64 (j : Int)), (10, .int .i64 (i : Int)), (3, .int .i64 (i : Int)), (7, .int .i64 (i : Int)), (6, .int .i64 (n : Int)), (0, .slice pg n cg)] ∧ ULe U1 U' ∧ M2 = M' ∧ z = i - j) (n0 := i)
      (E0 := [(11, .int .i64 ((0 : Nat) : Int)), (10, .int .i64 (i : Int)), (3, .int .i64 (i : Int)), (7, .int .i64 (i : Int)), (6, .int .i64 (n : Int)), (0, .slice pg n cg)]) ⟨rfl, rfl, rfl, rfl, rfl, rfl, trivial⟩ ⟨0, by omega, (fun b h => absurd h (Nat.not_lt_zero b)), rfl, uc, rfl, rfl⟩ ?_
    rintro z E U2 M2 ⟨j, hj, hrow, rfl, hU2, rfl, rfl⟩
    try refine run_s ?_
    refine st_dec rfl (fun h2 => ?_) (fun h2 => ?_)
    · have hji : j < i := by omega
      have hjn : j < n := by omega
      have rg2 := rg.up (U' := U2) (M' := M2) uc sb
      obtain ⟨v1, hv1⟩ := rg2.at hin
      obtain ⟨q1, c1, us, rfl, hc1, ru, eu⟩ := eg _ _ hv1
      obtain ⟨v2, hv2⟩ := rg2.at hjn
      obtain ⟨q2, c2, ws, rfl, hc2, rw2, ew⟩ := eg _ _ hv2
      have ru2 := ru.up (U' := U2) (M' := M2) uc sb
      have rw3 := rw2.up (U' := U2) (M' := M2) uc sb
      obtain ⟨v3, hv3⟩ := ru2.at hjn
      obtain ⟨x3, rfl, hx3⟩ := eu _ _ hv3
      obtain ⟨v4, hv4⟩ := rw3.at hin
      obtain ⟨x4, rfl, hx4⟩ := ew _ _ hv4
      try refine run_s ?_
      refine st_draw [0, 1, 2, 3, 4, 5, 6, 7, 8, 9, 10, 11, 12, 13, 14, 15] sym (by kernel_rfl) ?_
      try refine run_s ?_
      refine sl_y (yl_index sym rfl rfl rfl rfl rfl rfl (rg2.lt hv1) (rg2.get _ _ hv1).1) rfl rfl rfl rfl ?_; refine sl_y (yl_loadR1 sym rfl rfl rfl rfl rg2 hv1 rfl) rfl rfl rfl rfl ?_
      try refine run_s ?_
      refine sl_y (yl_index sym rfl rfl rfl rfl rfl rfl (ru2.lt hv3) (ru2.get _ _ hv3).1) rfl rfl rfl rfl ?_; refine sl_y (yl_loadRs sym rfl rfl rfl rfl rfl ru2 hv3) rfl rfl rfl rfl ?_
      try refine run_s ?_
      refine sl_y (yl_index sym rfl rfl rfl rfl rfl rfl (rg2.lt hv2) (rg2.get _ _ hv2).1) rfl rfl rfl rfl ?_; refine sl_y (yl_loadR1 sym rfl rfl rfl rfl rg2 hv2 rfl) rfl rfl rfl rfl ?_
      try refine run_s ?_
      refine sl_y (yl_index sym rfl rfl rfl rfl rfl rfl (rw3.lt hv4) (rw3.get _ _ hv4).1) rfl rfl rfl rfl ?_; refine sl_y (yl_loadRs sym rfl rfl rfl rfl rfl rw3 hv4) rfl rfl rfl rfl ?_
      try refine run_s ?_
      refine sl_call rfl rfl rfl rfl rfl rfl (fun _ => qCmp_ct (hx3.rep.up uc sb) (hx3.le (sA i j hin hjn) (by omega)) (hx4.rep.up uc sb) (hx4.le (sA j i hjn hin) (by omega))) ?_
      rintro v5 U5 D5 hU5 ⟨rfl, -, rfl⟩
      rw [List.nil_append]
      try refine run_s ?_
      refine st_ne rfl (fun h3 => ?_) (fun h3 => ?_)
      · try refine run_s ?_
        refine sk_ret [] sym rfl (.cons (.tmp rfl) .nil) uc sb (.inl rfl) ⟨false, rfl, ⟨(fun h => by cases h), fun h => absurd ?_ h3⟩, rfl⟩
        rw [h i j hin hji, Rat.sub_self]; rfl
      · have e5 : A i j = A j i := by
          have := Int.sign_eq_zero_iff_zero.1 h3
          have h6 := Rat.num_eq_zero.1 this
          grind
        try refine run_s ?_
        exact sk_again (E' := [(11, .int .i64 ((j : Int) + 1)), (10, .int .i64 (i : Int)), (3, .int .i64 (i : Int)), (7, .int .i64 (i : Int)), (6, .int .i64 (n : Int)), (0, .slice pg n cg)]) (m := i - (j + 1)) ⟨rfl, rfl, rfl, rfl, rfl, rfl, trivial⟩ (by omega)
          ⟨j + 1, by omega, (fun b hb => by
            rcases Nat.lt_or_eq_of_le (Nat.le_of_lt_succ hb) with h1 | h1
            · exact hrow b h1
            · rw [h1]; exact e5), rfl, uc, rfl, rfl⟩
    · have e : j = i := by omega
      subst e
      try refine run_s ?_
      exact sk_again (E' := [(7, .int .i64 ((j : Int) + 1)), (6, .int .i64 (n : Int)), (0, .slice pg n cg)]) (m := n - (j + 1)) ⟨rfl, rfl, rfl, trivial⟩ (by omega)
        ⟨j + 1, by omega, (fun a b ha hb => by
          rcases Nat.lt_or_eq_of_le (Nat.le_of_lt_succ ha) with h1 | h1
          · exact hsy a b h1 hb
          · subst h1; exact hrow b hb), rfl, uc, rfl, rfl⟩
  · have e : i = n := by omega
    subst e
    try refine run_s ?_
    exact sk_ret [] sym rfl (.cons (.tmp rfl) .nil) uc sb (.inl rfl) ⟨true, rfl, ⟨fun _ => hsy, fun _ => rfl⟩, rfl⟩

/-- Row and column j are added to row and column i. -/
theorem mmix_cx {n b i j : Nat} {X D : MH} {vg : Value} {A : Nat → Nat → Rat} (hg : Go rO n n U D vg A) (sA : ∀ a c, a < n → c < n → Szq (A a c) b) (hi : i < n) (hj : j < n) (hne : j ≠ i) (hb : b ≤ 10000000000) (hn : n ≤ 1000) :
    Cx Tryz.prog 121 [vg, .int .i64 (i : Int), .int .i64 (j : Int)] G U (D ++ X) fun _ U' M' => ULe U U' ∧ ∃ D', M' = D' ++ X ∧ Go rO n n U' D' vg (La.cop (La.rop A i j 1) i j 1) := by
  obtain ⟨Do, F, pg, cg, svs, rfl, rfl, hro, hg⟩ := hg
  have hsl := hro.len.1
  rw [List.append_assoc]
  refine cx_of_st Tryz.func121 rfl rfl rfl rfl ?_
  try refine run_s ?_
  refine st_loop (fun z E U' M' => ∃ (c : Nat) (F : List MH), c ≤ n ∧ Gs rO n U' svs F (fun a k => if a = i ∧ k < c then A i k + 1 * A j k else A a k) ∧ E = [(10, .int .i64 (c : Int)), (9, .int .i64 (n : Int)), (0, .slice pg n cg), (1, .int .i64 (i : Int)), (2, .int .i64 (j : Int))] ∧ ULe U U' ∧ M' = Do ++ (F.flatten ++ X) ∧ z = n - c) (n0 := n)
    (E0 := [(10, .int .i64 ((0 : Nat) : Int)), (9, .int .i64 (n : Int)), (0, .slice pg n cg), (1, .int .i64 (i : Int)), (2, .int .i64 (j : Int))]) ⟨rfl, rfl, rfl, rfl, rfl, trivial⟩ ⟨0, F, by omega, by simpa using hg, rfl, uc, rfl, rfl⟩ ?_
  clear hg F
  rintro z E U1 M' ⟨c, F, hc, hg, rfl, hU1, rfl, rfl⟩
  try refine run_s ?_
  refine st_dec rfl (fun h => ?_) (fun h => ?_)
  · have hcn : c < n := by omega
    have rA := hro.at (U := U1) (M := Do ++ (F.flatten ++ X)) sb
    obtain ⟨q, c', vs, Di, hvi, hFi, hiF, hR, hput⟩ := hg.put1 (i := i) (j := c) (by omega)
    obtain ⟨q1, c1, us, x1, hv1, r1, hu1, hx1⟩ := hg.read (i := i) (j := c) (M := Do ++ (F.flatten ++ X)) (by omega) hcn ((List.sublist_append_left ..).trans (List.sublist_append_right ..))
    obtain ⟨q2, c2, ws, x2, hv2, r2, hu2, hx2⟩ := hg.read (i := j) (j := c) (M := Do ++ (F.flatten ++ X)) (by omega) hcn ((List.sublist_append_left ..).trans (List.sublist_append_right ..))
    rw [if_neg (by omega)] at hx1
    rw [if_neg (by omega)] at hx2
    try refine run_s ?_
    refine st_drawM [20, 21] [0, 1, 2, 3, 4, 5, 6, 7, 8, 9, 10, 11, 12, 13, 14, 15, 16, 17, 18, 19, 20, 21] sym (by kernel_rfl) ?_
    try refine run_s ?_
    refine sl_y (yl_index sym rfl rfl rfl rfl rfl rfl (rA.lt hvi) (rA.get _ _ hvi).1) rfl rfl rfl rfl ?_; refine sl_y (yl_loadR1 sym rfl rfl rfl rfl rA hvi rfl) rfl rfl rfl rfl ?_
    try refine run_s ?_
    refine sl_y (yl_index sym rfl rfl rfl rfl rfl rfl (rA.lt hv1) (rA.get _ _ hv1).1) rfl rfl rfl rfl ?_; refine sl_y (yl_loadR1 sym rfl rfl rfl rfl rA hv1 rfl) rfl rfl rfl rfl ?_
    try refine run_s ?_
    refine sl_y (yl_index sym rfl rfl rfl rfl rfl rfl (r1.lt hu1) (r1.get _ _ hu1).1) rfl rfl rfl rfl ?_; refine sl_y (yl_loadRs sym rfl rfl rfl rfl rfl r1 hu1) rfl rfl rfl rfl ?_
    try refine run_s ?_
    refine sl_y (yl_index sym rfl rfl rfl rfl rfl rfl (rA.lt hv2) (rA.get _ _ hv2).1) rfl rfl rfl rfl ?_; refine sl_y (yl_loadR1 sym rfl rfl rfl rfl rA hv2 rfl) rfl rfl rfl rfl ?_
    try refine run_s ?_
    refine sl_y (yl_index sym rfl rfl rfl rfl rfl rfl (r2.lt hu2) (r2.get _ _ hu2).1) rfl rfl rfl rfl ?_; refine sl_y (yl_loadRs sym rfl rfl rfl rfl rfl r2 hu2) rfl rfl rfl rfl ?_
    try refine run_s ?_
    refine sl_call rfl rfl rfl rfl rfl rfl (fun _ => (qAdd_ct (hx1.rep.up uc sb) (hx1.le (sA i c hi hcn) (by omega)) (hx2.rep.up uc sb) (hx2.le (sA j c hj hcn) (by omega))).settle) ?_
    rintro v Uh3 D hU ⟨rfl, _, _, ⟨xh3, rfl, h3, -⟩, -, -, hs⟩
    replace h3 := h3.sett hs
    clear hs
    repeat (first | refine run_S ?_ | refine w_box (fun _ => ?_) | refine w_al (fun _ => ?_))
    refine w_addr (j := c) hcn (hR.some (by omega)) ?_
    refine w_storeR (v := xh3.v) (X := Do ++ (((F.take i).flatten ++ (F.drop (i + 1)).flatten) ++ X)) hR (pick_perm (B := Do) (pickF hFi)) hcn (fun D2 hr2 => ?_)
    refine sl_perm ?_ (pick_perm (B := Do) (putF hiF)).symm
    try refine run_s ?_
    exact sk_again (E' := [(10, .int .i64 ((c : Int) + 1)), (9, .int .i64 (n : Int)), (0, .slice pg n cg), (1, .int .i64 (i : Int)), (2, .int .i64 (j : Int))]) (m := n - (c + 1)) ⟨rfl, rfl, rfl, rfl, rfl, trivial⟩ (by omega)
      ⟨c + 1, F.set i D2, by omega, Gs.cong2 (hput Uh3 D2 xh3 (A i c + A j c) uc hr2 h3) (fun a => by
        funext k
        by_cases e : a = i ∧ k = c
        · rw [if_pos e, if_pos (by omega), e.2, Rat.one_mul]
        · rw [if_neg e]
          by_cases e2 : a = i ∧ k < c
          · rw [if_pos e2, if_pos (by omega)]
          · rw [if_neg e2, if_neg (by omega)]), rfl, uc, rfl, rfl⟩
  have e : c = n := by omega
  subst e
  replace hg := hg.congr (B := La.rop A i j 1) (n := c) hsl (fun _ _ _ _ h => h.len.1) (fun a k _ hk => by
    unfold La.rop
    by_cases e : a = i
    · rw [if_pos ⟨e, hk⟩, if_pos e]
    · rw [if_neg fun h => e h.1, if_neg e])
  have sR : ∀ a k, a < c → k < c → Szq (La.rop A i j 1 a k) (2 * b + 1) := fun a k ha hk => by
    unfold La.rop
    split
    · rw [Rat.one_mul]; exact ((sA i k hi hk).add (sA j k hj hk)).mono (by omega)
    · exact (sA a k ha hk).mono (by omega)
  generalize La.rop A i j 1 = B at hg sR
  try refine run_s ?_
  refine st_loop (fun z E U' M' => ∃ (r : Nat) (F : List MH), r ≤ c ∧ Gs rO c U' svs F (fun a k => if k = i ∧ a < r then B a i + 1 * B a j else B a k) ∧ E = [(37, .int .i64 (r : Int)), (36, .int .i64 (c : Int)), (0, .slice pg c cg), (1, .int .i64 (i : Int)), (2, .int .i64 (j : Int))] ∧ ULe U1 U' ∧ M' = Do ++ (F.flatten ++ X) ∧ z = c - r) (n0 := c)
    (E0 := [(37, .int .i64 ((0 : Nat) : Int)), (36, .int .i64 (c : Int)), (0, .slice pg c cg), (1, .int .i64 (i : Int)), (2, .int .i64 (j : Int))]) ⟨rfl, rfl, rfl, rfl, rfl, trivial⟩ ⟨0, F, by omega, by simpa using hg, rfl, uc, rfl, rfl⟩ ?_
  clear hg F h
  rintro z E U2 M' ⟨r, F, hr, hg, rfl, hU2, rfl, rfl⟩
  try refine run_s ?_
  refine st_dec rfl (fun h => ?_) (fun h => ?_)
  · have hrc : r < c := by omega
    have rA := hro.at (U := U2) (M := Do ++ (F.flatten ++ X)) sb
    obtain ⟨q, c', vs, Di, hvi, hFi, hiF, hR, hput⟩ := hg.put1 (i := r) (j := i) (by omega)
    obtain ⟨q1, c1, us, x1, hv1, r1, hu1, hx1⟩ := hg.read (i := r) (j := i) (M := Do ++ (F.flatten ++ X)) (by omega) hi ((List.sublist_append_left ..).trans (List.sublist_append_right ..))
    obtain ⟨q2, c2, ws, x2, hv2, r2, hu2, hx2⟩ := hg.read (i := r) (j := j) (M := Do ++ (F.flatten ++ X)) (by omega) hj ((List.sublist_append_left ..).trans (List.sublist_append_right ..))
    rw [if_neg (by omega)] at hx1
    rw [if_neg (by omega)] at hx2
    try refine run_s ?_
    refine st_drawM [20, 21] [0, 1, 2, 3, 4, 5, 6, 7, 8, 9, 10, 11, 12, 13, 14, 15, 16, 17, 18, 19, 20, 21] sym (by kernel_rfl) ?_
    try refine run_s ?_
    refine sl_y (yl_index sym rfl rfl rfl rfl rfl rfl (rA.lt hvi) (rA.get _ _ hvi).1) rfl rfl rfl rfl ?_; refine sl_y (yl_loadR1 sym rfl rfl rfl rfl rA hvi rfl) rfl rfl rfl rfl ?_
    try refine run_s ?_
    refine sl_y (yl_index sym rfl rfl rfl rfl rfl rfl (rA.lt hv1) (rA.get _ _ hv1).1) rfl rfl rfl rfl ?_; refine sl_y (yl_loadR1 sym rfl rfl rfl rfl rA hv1 rfl) rfl rfl rfl rfl ?_
    try refine run_s ?_
    refine sl_y (yl_index sym rfl rfl rfl rfl rfl rfl (r1.lt hu1) (r1.get _ _ hu1).1) rfl rfl rfl rfl ?_; refine sl_y (yl_loadRs sym rfl rfl rfl rfl rfl r1 hu1) rfl rfl rfl rfl ?_
    try refine run_s ?_
    refine sl_y (yl_index sym rfl rfl rfl rfl rfl rfl (rA.lt hv2) (rA.get _ _ hv2).1) rfl rfl rfl rfl ?_; refine sl_y (yl_loadR1 sym rfl rfl rfl rfl rA hv2 rfl) rfl rfl rfl rfl ?_
    try refine run_s ?_
    refine sl_y (yl_index sym rfl rfl rfl rfl rfl rfl (r2.lt hu2) (r2.get _ _ hu2).1) rfl rfl rfl rfl ?_; refine sl_y (yl_loadRs sym rfl rfl rfl rfl rfl r2 hu2) rfl rfl rfl rfl ?_
    try refine run_s ?_
    refine sl_call rfl rfl rfl rfl rfl rfl (fun _ => (qAdd_ct (hx1.rep.up uc sb) (hx1.le (sR r i hrc hi) (by omega)) (hx2.rep.up uc sb) (hx2.le (sR r j hrc hj) (by omega))).settle) ?_
    rintro v Uh3 D hU ⟨rfl, _, _, ⟨xh3, rfl, h3, -⟩, -, -, hs⟩
    replace h3 := h3.sett hs
    clear hs
    repeat (first | refine run_S ?_ | refine w_box (fun _ => ?_) | refine w_al (fun _ => ?_))
    refine w_addr (j := i) hi (hR.some (by omega)) ?_
    refine w_storeR (v := xh3.v) (X := Do ++ (((F.take r).flatten ++ (F.drop (r + 1)).flatten) ++ X)) hR (pick_perm (B := Do) (pickF hFi)) hi (fun D2 hr2 => ?_)
    refine sl_perm ?_ (pick_perm (B := Do) (putF hiF)).symm
    try refine run_s ?_
    exact sk_again (E' := [(37, .int .i64 ((r : Int) + 1)), (36, .int .i64 (c : Int)), (0, .slice pg c cg), (1, .int .i64 (i : Int)), (2, .int .i64 (j : Int))]) (m := c - (r + 1)) ⟨rfl, rfl, rfl, rfl, rfl, trivial⟩ (by omega)
      ⟨r + 1, F.set r D2, by omega, Gs.cong2 (hput Uh3 D2 xh3 (B r i + B r j) uc hr2 h3) (fun a => by
        funext k
        by_cases e : a = r ∧ k = i
        · rw [if_pos e, if_pos (by omega), e.1, Rat.one_mul]
        · rw [if_neg e]
          by_cases e2 : k = i ∧ a < r
          · rw [if_pos e2, if_pos (by omega)]
          · rw [if_neg e2, if_neg (by omega)]), rfl, uc, rfl, rfl⟩
  · have e : r = c := by omega
    subst e
    try refine run_s ?_
    exact sk_retX sym rfl .nil uc (M' := Do ++ (F.flatten ++ X)) sb (.inr rfl) ⟨uc, Do ++ F.flatten, (List.append_assoc ..).symm, Do, F, pg, cg, svs, rfl, rfl, hro, hg.congr (n := r) hsl (fun _ _ _ _ h => h.len.1) (fun a k ha _ => by
      unfold La.cop
      by_cases e : k = i
      · rw [if_pos ⟨e, ha⟩, if_pos e]
      · rw [if_neg fun h => e h.1, if_neg e])⟩

/-- A truth value. -/
def Vbl (_ : UH) (v : Value) (b : Bool) : Prop := v = .bool b

theorem mturn_cx {n b cd : Nat} {X D : MH} {vg : Value} {A : Nat → Nat → Rat} {pd : Option Addr} {ds : List Value} {dn : Nat → Bool} (hg : Go rO n n U D vg A) (sA : ∀ a c, a < n → c < n → Szq (A a c) b) (rd : RowAt U X 1 pd n ds) (ed : El Vbl U ds dn) (hb : b ≤ 10000000000) (hn : n ≤ 1000) :
    Cx Tryz.prog 93 [vg, .slice pd n cd] G U (D ++ X) fun v U' M' => ULe U U' ∧ ∃ (t : Int) (A' : Nat → Nat → Rat) (D' : MH), v = .int .i64 t ∧ M' = D' ++ X ∧ Go rO n n U' D' vg A' ∧
      ((t = -1 ∧ A' = A ∧ (∀ i, i < n → dn i = false → A i i = 0) ∧ ∀ i j, i < n → j < i → dn i = false → dn j = false → A i j = 0) ∨
       ∃ i : Nat, t = (i : Int) ∧ i < n ∧ dn i = false ∧ ((A' = A ∧ A i i ≠ 0) ∨ ∃ j, j < i ∧ dn j = false ∧ A i i = 0 ∧ A j j = 0 ∧ A i j ≠ 0 ∧ A' = La.cop (La.rop A i j 1) i j 1)) := by
  have hg0 := hg
  obtain ⟨Do, F, pg, cg, svs, rfl, rfl, hro, hg⟩ := hg
  have hsl := hro.len.1
  have hm1 : Do.Sublist ((Do ++ F.flatten) ++ X) := (List.sublist_append_left ..).trans (List.sublist_append_left ..)
  have hm2 : F.flatten.Sublist ((Do ++ F.flatten) ++ X) := (List.sublist_append_right ..).trans (List.sublist_append_left ..)
  have hm3 : X.Sublist ((Do ++ F.flatten) ++ X) := List.sublist_append_right ..
  have rA := hro.at (U := U) (M := (Do ++ F.flatten) ++ X) hm1
  have rD := rd.up (U' := U) (M' := (Do ++ F.flatten) ++ X) (ULe.refl U) hm3
  refine cx_of_st Tryz.func93 rfl rfl rfl rfl ?_
  try refine run_s ?_
  refine st_loop (fun z E U' M' => ∃ i : Nat, i ≤ n ∧ (∀ a, a < i → dn a = false → A a a = 0) ∧ E = [(10, .int .i64 (i : Int)), (9, .int .i64 (n : Int)), (0, .slice pg n cg), (1, .slice pd n cd)] ∧ U = U' ∧ M' = (Do ++ F.flatten) ++ X ∧ z = n - i) (n0 := n)
    (E0 := [(10, .int .i64 ((0 : Nat) : Int)), (9, .int .i64 (n : Int)), (0, .slice pg n cg), (1, .slice pd n cd)]) ⟨rfl, rfl, rfl, rfl, trivial⟩ ⟨0, by omega, (fun a h => absurd h (Nat.not_lt_zero a)), rfl, rfl, rfl, rfl⟩ ?_
  rintro z E U' M' ⟨i, hi, hdiag, rfl, rfl, rfl, rfl⟩
  try refine run_s ?_
  refine st_dec rfl (fun h => ?_) (fun h => ?_)
  · have hin : i < n := by omega
    obtain ⟨v1, hv1⟩ := rD.at hin
    obtain rfl : v1 = _ := ed _ _ hv1
    obtain ⟨q1, c1, us, x1, hv2, r1, hu1, hx1⟩ := hg.read (i := i) (j := i) (M := (Do ++ F.flatten) ++ X) (by omega) hin hm2
    try refine run_s ?_
    rcases Bool.eq_false_or_eq_true (dn i) with hdi | hdi
    · skip
      rw [hdi] at hv1
      refine sl_y (yl_index sym rfl rfl rfl rfl rfl rfl (rD.lt hv1) (rD.get _ _ hv1).1) rfl rfl rfl rfl ?_; refine sl_y (yl_loadR1 sym rfl rfl rfl rfl rD hv1 rfl) rfl rfl rfl rfl ?_
      try refine run_s ?_
      exact sk_again (E' := [(10, .int .i64 ((i : Int) + 1)), (9, .int .i64 (n : Int)), (0, .slice pg n cg), (1, .slice pd n cd)]) (m := n - (i + 1)) ⟨rfl, rfl, rfl, rfl, trivial⟩ (by omega)
        ⟨i + 1, by omega, (fun a ha hd => by
          rcases Nat.lt_or_eq_of_le (Nat.le_of_lt_succ ha) with h1 | h1
          · exact hdiag a h1 hd
          · subst h1; rw [hdi] at hd; cases hd), rfl, rfl, rfl, rfl⟩
    · skip
      rw [hdi] at hv1
      refine sl_y (yl_index sym rfl rfl rfl rfl rfl rfl (rD.lt hv1) (rD.get _ _ hv1).1) rfl rfl rfl rfl ?_; refine sl_y (yl_loadR1 sym rfl rfl rfl rfl rD hv1 rfl) rfl rfl rfl rfl ?_
      try refine run_s ?_
      refine sl_y (yl_index sym rfl rfl rfl rfl rfl rfl (rA.lt hv2) (rA.get _ _ hv2).1) rfl rfl rfl rfl ?_; refine sl_y (yl_loadR1 sym rfl rfl rfl rfl rA hv2 rfl) rfl rfl rfl rfl ?_
      try refine run_s ?_
      refine sl_y (yl_index sym rfl rfl rfl rfl rfl rfl (r1.lt hu1) (r1.get _ _ hu1).1) rfl rfl rfl rfl ?_; refine sl_y (yl_loadRs sym rfl rfl rfl rfl rfl r1 hu1) rfl rfl rfl rfl ?_
      refine sl_call rfl rfl rfl rfl rfl rfl (fun _ => nonzero_ct (hx1.rep.up uc sb) (hx1.le (sA i i hin hin) (by omega))) ?_
      rintro v U' D hU ⟨rfl, rfl, rfl⟩
      repeat (first | refine run_S ?_ | refine w_box (fun _ => ?_) | refine w_al (fun _ => ?_))
      by_cases h0 : A i i ≠ 0
      · rw [decide_eq_true h0]
        try refine run_s ?_
        exact sk_retX sym rfl (.cons (.tmp rfl) .nil) uc sb (.inl rfl) ⟨uc, (i : Int), A, Do ++ F.flatten, rfl, rfl, hg0, .inr ⟨i, rfl, hin, hdi, .inl ⟨rfl, h0⟩⟩⟩
      · rw [decide_eq_false h0]
        try refine run_s ?_
        exact sk_again (E' := [(10, .int .i64 ((i : Int) + 1)), (9, .int .i64 (n : Int)), (0, .slice pg n cg), (1, .slice pd n cd)]) (m := n - (i + 1)) ⟨rfl, rfl, rfl, rfl, trivial⟩ (by omega)
          ⟨i + 1, by omega, (fun a ha hd => by
            rcases Nat.lt_or_eq_of_le (Nat.le_of_lt_succ ha) with h1 | h1
            · exact hdiag a h1 hd
            · subst h1; exact Classical.not_not.1 h0), rfl, rfl, rfl, rfl⟩
  have e : i = n := by omega
  subst e
  try refine run_s ?_
  refine st_loop (fun z E U' M' => ∃ a : Nat, a ≤ i ∧ (∀ r c, r < a → c < r → dn r = false → dn c = false → A r c = 0) ∧ E = [(32, .int .i64 (a : Int)), (31, .int .i64 (i : Int)), (0, .slice pg i cg), (1, .slice pd i cd)] ∧ U = U' ∧ M' = (Do ++ F.flatten) ++ X ∧ z = i - a) (n0 := i)
    (E0 := [(32, .int .i64 ((0 : Nat) : Int)), (31, .int .i64 (i : Int)), (0, .slice pg i cg), (1, .slice pd i cd)]) ⟨rfl, rfl, rfl, rfl, trivial⟩ ⟨0, by omega, (fun r c h => absurd h (Nat.not_lt_zero r)), rfl, rfl, rfl, rfl⟩ ?_
  clear h
  rintro z E U' M' ⟨a, ha, hlow, rfl, rfl, rfl, rfl⟩
  try refine run_s ?_
  refine st_dec rfl (fun h => ?_) (fun h => ?_)
  · have hai : a < i := by omega
    try refine run_s ?_
    refine st_loop (fun z E U' M' => ∃ j : Nat, j ≤ a ∧ (∀ c, c < j → dn a = false → dn c = false → A a c = 0) ∧ E = [(36, .int .i64 (j : Int)), (35, .int .i64 (a : Int)), (6, .int .i64 (a : Int)), (32, .int .i64 (a : Int)), (31, .int .i64 (i : Int)), (0, .slice pg i cg), (1, .slice pd i cd)] ∧ U = U' ∧ M' = (Do ++ F.flatten) ++ X ∧ z = a - j) (n0 := a)
      (E0 := [(36, .int .i64 ((0 : Nat) : Int)), (35, .int .i64 (a : Int)), (6, .int .i64 (a : Int)), (32, .int .i64 (a : Int)), (31, .int .i64 (i : Int)), (0, .slice pg i cg), (1, .slice pd i cd)]) ⟨rfl, rfl, rfl, rfl, rfl, rfl, rfl, trivial⟩ ⟨0, by omega, (fun c h => absurd h (Nat.not_lt_zero c)), rfl, rfl, rfl, rfl⟩ ?_
    rintro z E U' M' ⟨j, hj, hrow, rfl, rfl, rfl, rfl⟩
    try refine run_s ?_
    refine st_dec rfl (fun h2 => ?_) (fun h2 => ?_)
    · have hja : j < a := by omega
      have hji : j < i := by omega
      obtain ⟨v1, hv1⟩ := rD.at hai
      obtain rfl : v1 = _ := ed _ _ hv1
      obtain ⟨v2, hv2⟩ := rD.at hji
      obtain rfl : v2 = _ := ed _ _ hv2
      obtain ⟨q1, c1, us, x1, hv3, r1, hu1, hx1⟩ := hg.read (i := a) (j := j) (M := (Do ++ F.flatten) ++ X) (by omega) hji hm2
      have again : (dn a = false → dn j = false → A a j = 0) → ∃ j' : Nat, j' ≤ a ∧ (∀ c, c < j' → dn a = false → dn c = false → A a c = 0) ∧ [(36, Value.int .i64 ((j : Int) + 1)), (35, .int .i64 (a : Int)), (6, .int .i64 (a : Int)), (32, .int .i64 (a : Int)), (31, .int .i64 (i : Int)), (0, .slice pg i cg), (1, .slice pd i cd)] = [(36, .int .i64 (j' : Int)), (35, .int .i64 (a : Int)), (6, .int .i64 (a : Int)), (32, .int .i64 (a : Int)), (31, .int .i64 (i : Int)), (0, .slice pg i cg), (1, .slice pd i cd)] ∧ U = U ∧ (Do ++ F.flatten) ++ X = (Do ++ F.flatten) ++ X ∧ a - (j + 1) = a - j' := fun h0 =>
        ⟨j + 1, by omega, (fun c hc h3 h4 => by
          rcases Nat.lt_or_eq_of_le (Nat.le_of_lt_succ hc) with h1 | h1
          · exact hrow c h1 h3 h4
          · subst h1; exact h0 h3 h4), rfl, rfl, rfl, rfl⟩
      try refine run_s ?_
      rcases Bool.eq_false_or_eq_true (dn a) with hda | hda
      · skip
        rw [hda] at hv1
        refine sl_y (yl_index sym rfl rfl rfl rfl rfl rfl (rD.lt hv1) (rD.get _ _ hv1).1) rfl rfl rfl rfl ?_; refine sl_y (yl_loadR1 sym rfl rfl rfl rfl rD hv1 rfl) rfl rfl rfl rfl ?_
        try refine run_s ?_
        exact sk_again (E' := [(36, .int .i64 ((j : Int) + 1)), (35, .int .i64 (a : Int)), (6, .int .i64 (a : Int)), (32, .int .i64 (a : Int)), (31, .int .i64 (i : Int)), (0, .slice pg i cg), (1, .slice pd i cd)]) (m := a - (j + 1)) ⟨rfl, rfl, rfl, rfl, rfl, rfl, rfl, trivial⟩ (by omega) (again fun h3 => by rw [hda] at h3; cases h3)
      · skip
        rw [hda] at hv1
        refine sl_y (yl_index sym rfl rfl rfl rfl rfl rfl (rD.lt hv1) (rD.get _ _ hv1).1) rfl rfl rfl rfl ?_; refine sl_y (yl_loadR1 sym rfl rfl rfl rfl rD hv1 rfl) rfl rfl rfl rfl ?_
        try refine run_s ?_
        rcases Bool.eq_false_or_eq_true (dn j) with hdj | hdj
        · skip
          rw [hdj] at hv2
          refine sl_y (yl_index sym rfl rfl rfl rfl rfl rfl (rD.lt hv2) (rD.get _ _ hv2).1) rfl rfl rfl rfl ?_; refine sl_y (yl_loadR1 sym rfl rfl rfl rfl rD hv2 rfl) rfl rfl rfl rfl ?_
          try refine run_s ?_
          exact sk_again (E' := [(36, .int .i64 ((j : Int) + 1)), (35, .int .i64 (a : Int)), (6, .int .i64 (a : Int)), (32, .int .i64 (a : Int)), (31, .int .i64 (i : Int)), (0, .slice pg i cg), (1, .slice pd i cd)]) (m := a - (j + 1)) ⟨rfl, rfl, rfl, rfl, rfl, rfl, rfl, trivial⟩ (by omega) (again fun _ h4 => by rw [hdj] at h4; cases h4)
        · skip
          rw [hdj] at hv2
          refine sl_y (yl_index sym rfl rfl rfl rfl rfl rfl (rD.lt hv2) (rD.get _ _ hv2).1) rfl rfl rfl rfl ?_; refine sl_y (yl_loadR1 sym rfl rfl rfl rfl rD hv2 rfl) rfl rfl rfl rfl ?_
          try refine run_s ?_
          refine sl_y (yl_index sym rfl rfl rfl rfl rfl rfl (rA.lt hv3) (rA.get _ _ hv3).1) rfl rfl rfl rfl ?_; refine sl_y (yl_loadR1 sym rfl rfl rfl rfl rA hv3 rfl) rfl rfl rfl rfl ?_
          try refine run_s ?_
          refine sl_y (yl_index sym rfl rfl rfl rfl rfl rfl (r1.lt hu1) (r1.get _ _ hu1).1) rfl rfl rfl rfl ?_; refine sl_y (yl_loadRs sym rfl rfl rfl rfl rfl r1 hu1) rfl rfl rfl rfl ?_
          refine sl_call rfl rfl rfl rfl rfl rfl (fun _ => nonzero_ct (hx1.rep.up uc sb) (hx1.le (sA a j hai hji) (by omega))) ?_
          rintro v U' D hU ⟨rfl, rfl, rfl⟩
          repeat (first | refine run_S ?_ | refine w_box (fun _ => ?_) | refine w_al (fun _ => ?_))
          by_cases h0 : A a j ≠ 0
          · rw [decide_eq_true h0]
            try refine run_s ?_
            refine sl_callC rfl rfl rfl rfl rfl rfl (mmix_cx (X := X) hg0 sA hai hji (by omega) hb hn) ?_
            rintro v3 U3 M3 hU3 ⟨-, D', rfl, hg3⟩
            try refine run_s ?_
            exact sk_retX sym rfl (.cons (.tmp rfl) .nil) uc sb (.inl rfl) ⟨uc, (a : Int), _, D', rfl, rfl, hg3, .inr ⟨a, rfl, hai, hda, .inr ⟨j, hja, hdj, hdiag a hai hda, hdiag j hji hdj, h0, rfl⟩⟩⟩
          · rw [decide_eq_false h0]
            try refine run_s ?_
            exact sk_again (E' := [(36, .int .i64 ((j : Int) + 1)), (35, .int .i64 (a : Int)), (6, .int .i64 (a : Int)), (32, .int .i64 (a : Int)), (31, .int .i64 (i : Int)), (0, .slice pg i cg), (1, .slice pd i cd)]) (m := a - (j + 1)) ⟨rfl, rfl, rfl, rfl, rfl, rfl, rfl, trivial⟩ (by omega) (again fun _ _ => Classical.not_not.1 h0)
    · have e : j = a := by omega
      subst e
      try refine run_s ?_
      exact sk_again (E' := [(32, .int .i64 ((j : Int) + 1)), (31, .int .i64 (i : Int)), (0, .slice pg i cg), (1, .slice pd i cd)]) (m := i - (j + 1)) ⟨rfl, rfl, rfl, rfl, trivial⟩ (by omega)
        ⟨j + 1, by omega, (fun r c hr hc h3 h4 => by
          rcases Nat.lt_or_eq_of_le (Nat.le_of_lt_succ hr) with h1 | h1
          · exact hlow r c h1 hc h3 h4
          · subst h1; exact hrow c hc h3 h4), rfl, rfl, rfl, rfl⟩
  · have e : a = i := by omega
    subst e
    try refine run_s ?_
    exact sk_retX sym rfl (.cons (.tmp rfl) .nil) uc sb (.inl rfl) ⟨uc, -1, A, Do ++ F.flatten, rfl, rfl, hg0, .inl ⟨rfl, rfl, hdiag, hlow⟩⟩

end Go.Proofs.YtcfgogamamdipaaGreat
