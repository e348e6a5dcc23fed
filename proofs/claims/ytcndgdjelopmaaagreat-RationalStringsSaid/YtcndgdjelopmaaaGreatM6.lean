/- Texts of this seat's own, merged: each begins with its own remark. -/
import Derived.Test.YtcndgdjelopmaaaGreatM2
import Derived.Test.YtcndgdjelopmaaaGreatM3
import Derived.Test.YtcndgdjelopmaaaGreatM4
import Derived.Test.YtcndgdjelopmaaaGreatM5
/- Walks of layer 1: the decimal form of an integer. -/
namespace Go.Proofs.YtcndgdjelopmaaaGreat
open Go.Hp
variable {G : World} {U : UH} {M : MH}

/-- The outer i elements on both sides are exchanged. -/
def Rev (r s : List Nat) (n i : Nat) : Prop := s.length = n ∧ ∀ k, k < n → s[k]? = if k < i ∨ n - i ≤ k then r[n - 1 - k]? else r[k]?

theorem Rev.step {r s : List Nat} {n i x y : Nat} (h : Rev r s n i) (_hn : r.length = n) (hi : i + 1 < n - i) (hx : r[i]? = some x) (hy : r[n - 1 - i]? = some y) : Rev r ((s.set i y).set (n - 1 - i) x) n (i + 1) := by
  obtain ⟨h1, h2⟩ := h
  refine ⟨by simp [h1], fun k hk => ?_⟩
  rw [List.getElem?_set, List.getElem?_set]
  simp only [List.length_set, h1]
  by_cases h3 : n - 1 - i = k
  · subst h3
    have e : n - 1 - (n - 1 - i) = i := by omega
    rw [if_pos rfl, if_pos hk, if_pos (by omega), e, hx]
  · rw [if_neg h3]
    by_cases h4 : i = k
    · subst h4
      rw [if_pos rfl, if_pos hk, if_pos (by omega), hy]
    · rw [if_neg h4, h2 k hk]
      by_cases h5 : k < i ∨ n - i ≤ k
      · rw [if_pos h5, if_pos (by omega)]
      · rw [if_neg h5, if_neg (by omega)]

theorem Rev.done {r s : List Nat} {n i : Nat} (h : Rev r s n i) (hn : r.length = n) (hi : n ≤ i + i + 1) : s = r.reverse := by
  obtain ⟨h1, h2⟩ := h
  refine List.ext_getElem? fun k => ?_
  by_cases hk : k < n
  · rw [h2 k hk, List.getElem?_reverse (by omega), hn]
    by_cases h5 : k < i ∨ n - i ≤ k
    · rw [if_pos h5]
    · rw [if_neg h5, show n - 1 - k = k by omega]
  · rw [List.getElem?_eq_none (by omega), List.getElem?_eq_none (by simp; omega)]

/-- The bytes of a row of the call's own are reversed. -/
theorem Reverse_ct {b n c : Nat} {r : List Nat} {t : List Value} (hn : r.length = n) (hn2 : n ≤ 4611686018427387904) (ht : ∀ v ∈ t, v.cells.toList.length = 1) :
    Cx Tryz.prog 42 [.slice (some ⟨b, 0, none⟩) n c] G U ((b, .arr (r.map by8 ++ t), TU8) :: M) fun _ U' M' => U' = U ∧ M' = (b, .arr (r.reverse.map by8 ++ t), TU8) :: M := by
  refine cx_of_st Tryz.func42 rfl rfl rfl rfl ?_
  try refine run_s ?_
  refine st_loop (fun m E U' M' => ∃ (i : Nat) (s : List Nat), i ≤ n ∧ Rev r s n i ∧ E = [(2, .int .i64 (i : Int)), (3, .int .i64 ((n : Int) - 1 - (i : Int))), (0, .slice (some ⟨b, 0, none⟩) n c)] ∧ U' = U ∧
      M' = (b, .arr (s.map by8 ++ t), TU8) :: M ∧ m = n - i) (n0 := n)
    (E0 := [(2, .int .i64 ((0 : Nat) : Int)), (3, .int .i64 ((n : Int) - 1)), (0, .slice (some ⟨b, 0, none⟩) n c)]) ⟨rfl, rfl, rfl, trivial⟩ ⟨0, r, by omega, ⟨hn, fun k hk => by rw [if_neg (by omega)]⟩, by simp, rfl, rfl, rfl⟩ ?_
  rintro m E U' M' ⟨i, s, hi, hR, rfl, rfl, rfl, rfl⟩
  try refine run_s ?_
  refine st_dec rfl (fun h0 => ?_) (fun h0 => ?_)
  · have hj : (n : Int) - 1 - (i : Int) = ((n - 1 - i : Nat) : Int) := by omega
    have hgi : s[i]? = some (r[i]'(by omega)) := by rw [hR.2 i (by omega), if_neg (by omega), List.getElem?_eq_getElem (by omega)]
    have hgj : s[n - 1 - i]? = some (r[n - 1 - i]'(by omega)) := by rw [hR.2 _ (by omega), if_neg (by omega), List.getElem?_eq_getElem (by omega)]
    generalize hx : r[i]'(by omega) = x at hgi
    generalize hy : r[n - 1 - i]'(by omega) = y at hgj
    have hx' : r[i]? = some x := by rw [← hx]; exact List.getElem?_eq_getElem _
    have hy' : r[n - 1 - i]? = some y := by rw [← hy]; exact List.getElem?_eq_getElem _
    try refine run_s ?_
    refine st_draw [0, 1, 2, 3, 4, 5, 6, 7, 8, 9, 10, 11, 12, 13, 14, 15] sym (by kernel_rfl) ?_
    try refine run_s ?_
    refine sl_y (yl_indexM (j := n - 1 - i) sym rfl rfl rfl rfl rfl hj (by omega)) rfl rfl rfl rfl ?_
    refine sl_y (yl_loadMB (j := n - 1 - i) 0 sym rfl rfl rfl rfl rfl (by omega) hgj) rfl rfl rfl rfl ?_
    try refine run_s ?_
    refine sl_y (yl_indexM (j := i) sym rfl rfl rfl rfl rfl rfl (by omega)) rfl rfl rfl rfl ?_
    refine sl_y (yl_loadMB (j := i) 0 sym rfl rfl rfl rfl rfl (by omega) hgi) rfl rfl rfl rfl ?_
    try refine run_s ?_
    refine sl_y (yl_indexM (j := i) sym rfl rfl rfl rfl rfl rfl (by omega)) rfl rfl rfl rfl ?_
    refine sl_storeB 0 sym rfl rfl rfl rfl rfl ht rfl rfl (j := i) (by omega) (by rw [hR.1]; omega) rfl rfl rfl ?_
    try refine run_s ?_
    refine sl_y (yl_indexM (j := n - 1 - i) sym rfl rfl rfl rfl rfl hj (by omega)) rfl rfl rfl rfl ?_
    refine sl_storeB 0 sym rfl rfl rfl rfl rfl ht rfl rfl (j := n - 1 - i) (by omega) (by rw [List.length_set, hR.1]; omega) rfl rfl rfl ?_
    try refine run_s ?_
    refine sk_again (E' := [(2, .int .i64 ((i : Int) + 1)), (3, .int .i64 ((n : Int) - 1 - (i : Int) - 1)), (0, .slice (some ⟨b, 0, none⟩) n c)]) (m := n - (i + 1)) ⟨rfl, rfl, rfl, trivial⟩ (by omega)
      ⟨i + 1, _, by omega, hR.step hn (by omega) hx' hy', ?_, rfl, rfl, rfl⟩
    rw [show (n : Int) - 1 - (i : Int) - 1 = (n : Int) - 1 - ((i + 1 : Nat) : Int) by omega]
    rfl
  · try refine run_s ?_
    have e := hR.done hn (by omega)
    subst e
    exact sk_retX sym rfl .nil (ULe.refl _) (List.Sublist.refl _) (.inr rfl) ⟨rfl, rfl⟩

theorem fmt_strip {L : List Nat} {Z : Nat} (h : ∀ d ∈ L, d < 10) (hv : dval L = Z) (hZ : Z ≠ 0) : ∃ r d, L = r ++ [d] := by
  rcases snoc_cases L with rfl | h
  · exact absurd hv.symm hZ
  · exact h

theorem OwnB.form {D : MH} {p : Option Addr} {n c : Nat} {l : List Nat} (h : OwnB D p n c l) (h0 : l ≠ []) :
    ∃ b t, D = [(b, .arr (l.map by8 ++ t), TU8)] ∧ p = some ⟨b, 0, none⟩ ∧ l.length = n ∧ n + t.length = c ∧ c ≤ 9223372036854775807 ∧ ∀ v ∈ t, v.cells.toList.length = 1 := by
  cases h with
  | nil => exact absurd rfl h0
  | arr hn hc hm hb ht => exact ⟨_, _, rfl, rfl, hn, hc, hm, ht⟩

theorem fmt_arith (A B X D r1 r2 : Nat) : D + A * r1 + A * 10 * (r2 + B * X) = D + A * (r1 + 10 * r2 + B * 10 * X) := by grind

theorem cells_bool {a : Bool} : (Value.bool a).cells.toList.length = 1 := rfl

theorem Format_ct {x : IV} {z : Int} (hx : x.rep U M z) (hn : x.n ≤ 549755813888) :
    Ct Tryz.prog 19 [x.v] G U M fun v U' D => v = .string (bstr (fmt z)) ∧ U = U' ∧ D = [] := by
  obtain ⟨neg, p, n, c⟩ := x
  obtain ⟨l, hd, hz⟩ := hx
  simp only at hd hn hz
  have hle : (tl l).length ≤ n := by have := tl_length_le l; have := hd.len; omega
  have ht := hd.tl
  have hc := cn_tl hd.bd
  have hlt := val_lt hc.bd
  have hZ : z.natAbs = val (tl l) := by rw [hz, sg_natAbs, val_tl]
  have hneg : val (tl l) ≠ 0 → (z < 0 ↔ neg = true) := fun h0 => by
    rw [val_tl] at h0
    rw [hz]; unfold sg; cases neg <;> simp <;> omega
  have hz0 : val (tl l) = 0 → z = 0 := fun h0 => by omega
  clear hz
  refine ct_of_st Tryz.func19 rfl rfl rfl rfl ?_
  repeat (first | refine run_S ?_ | refine w_box (fun _ => ?_) | refine w_al (fun _ => ?_))
  refine sl_call rfl rfl rfl rfl rfl rfl (fun _ => trimmed_ct ((hd.up (ULe.refl _) (.cons _ (List.Sublist.refl _))).app _)) ?_
  rintro v U' D hU ⟨rfl, rfl, rfl⟩
  generalize tl l = a at *
  generalize hk : a.length = k at *
  repeat (first | refine run_S ?_ | refine w_box (fun _ => ?_) | refine w_al (fun _ => ?_))
  refine st_eq rfl (fun h0 => ?_) (fun h0 => ?_)
  · have ha : a = [] := List.eq_nil_of_length_eq_zero (by omega)
    repeat (first | refine run_S ?_ | refine w_box (fun _ => ?_) | refine w_al (fun _ => ?_))
    refine sk_ret [] sym rfl (.cons (.tmp rfl) .nil) (ULe.refl _) (.cons _ (List.Sublist.refl _)) (.inl rfl) ⟨?_, rfl, rfl⟩
    rw [hz0 (by rw [ha]; rfl), fmt_zero]
    rfl
  · repeat (first | refine run_S ?_ | refine w_box (fun _ => ?_) | refine w_al (fun _ => ?_))
    refine st_loop (fun m E U' M' => ∃ (pm : Option Addr) (nm cm : Nat) (lm : List Nat) (q : Option Addr) (kd cc : Nat) (L : List Nat) (D X : MH) (bx : Nat), Dig U X pm nm cm lm ∧ Cn lm ∧ nm ≤ n ∧ OwnB D q kd cc (L.map (48 + ·)) ∧ (∀ d ∈ L, d < 10) ∧ L.length = kd ∧
        dval L + 10 ^ kd * val lm = val a ∧ kd ≤ 32 * n + 9 ∧ E = [(3, .slice pm nm cm), (4, .slice q kd cc), (1, .pointer (some ⟨bx, 0, none⟩))] ∧ U = U' ∧ M' = D ++ (bx, .var (.agg #[.bool neg, .slice p n c]), 24) :: X ∧ M.Sublist X ∧ m = val lm) (n0 := val a)
      (E0 := [(3, .slice p k c), (4, .slice none 0 0), (1, .pointer (some ⟨_, 0, none⟩))]) ⟨rfl, rfl, rfl, trivial⟩
      ⟨p, k, c, a, none, 0, 0, [], [], M, _, ht, hc, hle, OwnB.nil, (fun d hd => by cases hd), rfl, by simp [dval], by omega, rfl, rfl, rfl, List.Sublist.refl _, rfl⟩ ?_
    rintro m E U' M' ⟨pm, nm, cm, lm, q, kd, cc, L, D, X, bx, hdm', hcm, hnm, ho, hL, hLk, hv, hkd, rfl, rfl, rfl, hX, rfl⟩
    have hlm := hdm'.len
    try refine run_s ?_
    refine st_dec rfl (fun h1 => ?_) (fun h1 => ?_)
    · have hv0 : val lm ≠ 0 := fun h => by have := hcm.zero.1 h; subst this; simp at hlm; omega
      have hk32 : kd < 32 * n := by
        have e1 : 10 ^ kd ≤ val a := by
          have : 10 ^ kd * 1 ≤ 10 ^ kd * val lm := Nat.mul_le_mul_left _ (by omega)
          omega
        have e2 : val a < 2 ^ (32 * n) := by
          refine Nat.lt_of_lt_of_le hlt ?_
          rw [Nat.pow_mul]
          exact Nat.pow_le_pow_right (by decide) hle
        have e3 : 2 ^ kd ≤ 10 ^ kd := Nat.pow_le_pow_left (by decide) _
        exact (Nat.pow_lt_pow_iff_right (a := 2) (by decide)).1 (by omega)
      try refine run_s ?_
      refine sl_call rfl rfl rfl rfl rfl rfl (fun _ => short_ct (d := 1000000000) ((hdm'.up (ULe.refl _) ((List.sublist_cons_self ..).trans (List.sublist_append_right D _))).app _) (by decide) (by decide) (by omega)) ?_
      rintro v U' D2 hU ⟨q2, k2, cc2, l2, rfl, ho2, hv2, rfl, rfl⟩
      refine sl_perm (M' := D ++ (bx, .var (.agg #[.bool neg, .slice p n c]), 24) :: (D2 ++ X)) ?_ (List.perm_append_comm_assoc .. |>.trans (List.Perm.append_left D perm1))
      have hd2 : Dig U (D ++ (bx, .var (.agg #[.bool neg, .slice p n c]), 24) :: (D2 ++ X)) q2 k2 cc2 l2 := (ho2.dig (M := X)).up (ULe.refl _) ((List.sublist_cons_self ..).trans (List.sublist_append_right ..))
      try refine run_s ?_
      refine sl_call rfl rfl rfl rfl rfl rfl (fun _ => trimmed_ct (hd2.app _)) ?_
      rintro v U' D3 hU ⟨rfl, rfl, rfl⟩
      try refine run_s ?_
      have ht2 := (ho2.dig (U := U) (M := X)).tl
      have hc2 := cn_tl hd2.bd
      have hl2 := tl_length_le l2
      have hl2' := hd2.len
      have hv3 : dval L + 10 ^ kd * (val lm % 1000000000 + 10 ^ 9 * val (tl l2)) = val a := by
        rw [val_tl, hv2, show (10 : Nat) ^ 9 = 1000000000 by decide, Nat.mod_add_div]; exact hv
      have hdec : val (tl l2) < val lm := by rw [val_tl, hv2]; exact Nat.div_lt_self (by omega) (by decide)
      generalize tl l2 = a2 at *
      generalize ha2 : a2.length = n2 at *
      generalize hr0 : val lm % 1000000000 = r0 at *
      have hr0' : r0 < 1000000000 := by omega
      refine st_loop (fun m E U' M' => ∃ (j r : Nat) (q : Option Addr) (kj cc : Nat) (L : List Nat) (D X : MH), j ≤ 9 ∧ Dig U X q2 n2 cc2 a2 ∧ OwnB D q kj cc (L.map (48 + ·)) ∧ (∀ d ∈ L, d < 10) ∧ L.length = kj ∧ kj = kd + j ∧ r < 10 ^ (9 - j) ∧
          dval L + 10 ^ kj * (r + 10 ^ (9 - j) * val a2) = val a ∧ E = [(23, .int .i64 (j : Int)), (4, .slice q kj cc), (6, .int .u32 (r : Int)), (3, .slice q2 n2 cc2), (1, .pointer (some ⟨bx, 0, none⟩))] ∧ U = U' ∧
          M' = D ++ (bx, .var (.agg #[.bool neg, .slice p n c]), 24) :: X ∧ M.Sublist X ∧ m = 9 - j) (n0 := 9)
        (E0 := [(23, .int .i64 ((0 : Nat) : Int)), (4, .slice q kd cc), (6, .int .u32 (r0 : Int)), (3, .slice q2 n2 cc2), (1, .pointer (some ⟨bx, 0, none⟩))]) ⟨rfl, rfl, rfl, rfl, rfl, trivial⟩
        ⟨0, r0, q, kd, cc, L, D, D2 ++ X, by omega, ht2, ho, hL, hLk, rfl, hr0', hv3, rfl, rfl, rfl, hX.trans (List.sublist_append_right ..), rfl⟩ ?_
      clear hv3 hL hLk ho hv
      rintro m E U' M' ⟨j, r, q, kj, cc, L, D, X, hj, hd3, ho, hL, hLk, hkj, hr, hv, rfl, rfl, rfl, hX, rfl⟩
      try refine run_s ?_
      refine st_dec rfl (fun h2 => ?_) (fun h2 => ?_)
      · have hr9 : r < 1000000000 := Nat.lt_of_lt_of_le hr (Nat.pow_le_pow_right (n := 10) (by decide) (show 9 - j ≤ 9 by omega))
        obtain ⟨e, he⟩ : ∃ e, 9 - j = e + 1 := ⟨8 - j, by omega⟩
        have he2 : 9 - (j + 1) = e := by omega
        try refine run_s ?_
        have e7 : (r : Int).tmod 10 = ((r % 10 : Nat) : Int) := by rw [Int.tmod_eq_emod_of_nonneg (by omega)]; omega
        have e8 : IntKind.u8.wrap (48 + IntKind.u8.wrap ((r : Int).tmod 10)) = ((48 + r % 10 : Nat) : Int) := by
          rw [e7, wrap_in (k := .u8) (n := ((r % 10 : Nat) : Int)) (by omega) (by simp only [kmax]; omega), wrap_in (by omega) (by simp only [kmax]; omega)]; omega
        rw [e8]
        refine sl_bslice (vs := [by8 (48 + r % 10)]) sym rfl rfl rfl rfl rfl rfl (by intro v hv; simp at hv; subst hv; rfl) rfl rfl rfl rfl rfl rfl (fun bo => ?_)
        refine sl_perm ?_ (perm1 (D := D)).symm
        refine sl_append1B (D := D) sym rfl rfl rfl rfl rfl ho rfl (by omega) (by omega) rfl rfl rfl rfl (fun q' cc' D' ho' => ?_)
        refine sl_perm (M' := D' ++ (bx, .var (.agg #[.bool neg, .slice p n c]), 24) :: (bo, .arr [by8 (48 + r % 10)], TU8) :: X) ?_ (List.Perm.append_left D' (List.Perm.swap ..))
        try refine run_s ?_
        have e10 : IntKind.u32.wrap ((r : Int).tdiv 10) = ((r / 10 : Nat) : Int) := by
          rw [Int.tdiv_eq_ediv_of_nonneg (by omega), wrap_in (by omega) (by simp only [kmax]; omega)]; omega
        rw [e10]
        have hmap : (L ++ [r % 10]).map (48 + ·) = L.map (48 + ·) ++ [48 + r % 10] := by simp
        rw [← hmap] at ho'
        refine sk_again (E' := [(23, .int .i64 ((j : Int) + 1)), (4, .slice q' (kj + 1) cc'), (6, .int .u32 ((r / 10 : Nat) : Int)), (3, .slice q2 n2 cc2), (1, .pointer (some ⟨bx, 0, none⟩))]) (m := 9 - (j + 1)) ⟨rfl, rfl, rfl, rfl, rfl, trivial⟩ (by omega)
          ⟨j + 1, r / 10, q', kj + 1, cc', L ++ [r % 10], D', _, by omega, hd3.up (ULe.refl _) (List.sublist_cons_self ..), ho', ?_, by simp [hLk], by omega, ?_, ?_, rfl, rfl, rfl, hX.cons _, rfl⟩
        · intro d hd
          rcases List.mem_append.1 hd with h | h
          · exact hL d h
          · rw [List.mem_singleton.1 h]; omega
        · rw [he2]
          rw [he, Nat.pow_succ] at hr
          omega
        · rw [he2, dval_snoc, hLk, Nat.pow_succ]
          rw [he, Nat.pow_succ] at hv
          have e9 := Nat.mod_add_div r 10
          generalize r % 10 = r1 at *
          generalize r / 10 = r2 at *
          rw [← hv, ← e9]
          exact fmt_arith ..
      · have hj9 : j = 9 := by omega
        subst hj9
        have hr00 : r = 0 := by simpa using hr
        subst hr00
        try refine run_s ?_
        simp only [Nat.zero_add, Nat.sub_self, Nat.pow_zero, Nat.one_mul] at hv
        exact sk_again (E' := [(3, .slice q2 n2 cc2), (4, .slice q kj cc), (1, .pointer (some ⟨bx, 0, none⟩))]) (m := val a2) ⟨rfl, rfl, rfl, trivial⟩ hdec
          ⟨q2, n2, cc2, a2, q, kj, cc, L, D, X, bx, hd3, hc2, by omega, ho, hL, hLk, hv, by omega, rfl, rfl, rfl, hX, rfl⟩
    · have hnm0 : nm = 0 := by omega
      subst hnm0
      have hlm0 : lm = [] := List.eq_nil_of_length_eq_zero hlm
      subst hlm0
      simp only [val, Nat.mul_zero, Nat.add_zero] at hv
      have ha0 : val a ≠ 0 := fun h => by
        have := hc.zero.1 h
        subst this; simp at hk; omega
      have hLne : L ≠ [] := fun h => by subst h; exact ha0 hv.symm
      obtain ⟨b, t, rfl, rfl, f1, f2, f3, f4⟩ := ho.form (by simpa using hLne)
      clear ho
      rw [List.length_map] at f1
      clear hLk
      subst f1
      try refine run_s ?_
      refine st_loop (fun m E U' M' => ∃ (L : List Nat) (t : List Value), dval L = val a ∧ (∀ d ∈ L, d < 10) ∧ L.length + t.length = cc ∧ (∀ v ∈ t, v.cells.toList.length = 1) ∧ L.length ≤ 32 * n + 9 ∧
          E = [(4, .slice (some ⟨b, 0, none⟩) L.length cc), (1, .pointer (some ⟨bx, 0, none⟩))] ∧ U = U' ∧ M' = (b, .arr ((L.map (48 + ·)).map by8 ++ t), TU8) :: (bx, .var (.agg #[.bool neg, .slice p n c]), 24) :: X ∧ m = L.length) (n0 := L.length)
        (E0 := [(4, .slice (some ⟨b, 0, none⟩) L.length cc), (1, .pointer (some ⟨bx, 0, none⟩))]) ⟨rfl, rfl, trivial⟩ ⟨L, t, hv, hL, f2, f4, by omega, rfl, rfl, rfl, rfl⟩ ?_
      clear hv hL hLne hkd f2 f4
      rintro m E U' M' ⟨L, t, hv, hL, f2, f4, hkd, rfl, rfl, rfl, rfl⟩
      obtain ⟨r, d, rfl⟩ := fmt_strip hL hv ha0
      have hd10 := hL d (by simp)
      have hlen : (r ++ [d]).length = r.length + 1 := by simp
      have hix : (((r ++ [d]).length : Nat) : Int) - 1 = ((r.length : Nat) : Int) := by rw [hlen]; omega
      have hget : ((r ++ [d]).map (48 + ·))[r.length]? = some (48 + d) := by simp
      try refine run_s ?_
      refine sl_y (yl_indexM (j := r.length) sym rfl rfl rfl rfl rfl hix (by omega)) rfl rfl rfl rfl ?_
      refine sl_y (yl_loadMB (j := r.length) 0 sym rfl rfl rfl rfl rfl (by omega) hget) rfl rfl rfl rfl ?_
      try refine run_s ?_
      refine st_eq rfl (fun h2 => ?_) (fun h2 => ?_)
      · have hd0 : d = 0 := by omega
        subst hd0
        try refine run_s ?_
        refine sl_y (yl_sliceTo (h := r.length) sym rfl rfl rfl rfl rfl hix (by omega)) rfl rfl rfl rfl ?_
        try refine run_s ?_
        refine sk_again (E' := [(4, .slice (some ⟨b, 0, none⟩) r.length cc), (1, .pointer (some ⟨bx, 0, none⟩))]) (m := r.length) ⟨rfl, rfl, trivial⟩ (by omega)
          ⟨r, by8 48 :: t, by rw [← hv, dval_snoc]; simp, fun d hd => hL d (List.mem_append_left _ hd), by rw [List.length_cons]; omega, ?_, by omega, rfl, rfl, by simp, rfl⟩
        intro v hv
        rcases List.mem_cons.1 hv with rfl | hv
        · rfl
        · exact f4 v hv
      · have hd0 : d ≠ 0 := by omega
        have hdl := dl_of hL hd0
        rw [hv, ← hZ] at hdl
        have hng := hneg ha0
        have hfmt : fmt z = (if neg = true then [45] else []) ++ ((r ++ [d]).map (48 + ·)).reverse := by
          unfold fmt
          rw [← hdl]
          congr 1
          by_cases hzz : z < 0
          · rw [if_pos hzz, if_pos (hng.1 hzz)]
          · rw [if_neg hzz, if_neg (fun h => hzz (hng.2 h))]
        rw [hfmt]
        have hby : ∀ d' ∈ (r ++ [d]).map (48 + ·), d' < 256 := fun d' hd' => by
          obtain ⟨e, he, rfl⟩ := List.mem_map.1 hd'
          have := hL e he
          omega
        generalize hLs : r ++ [d] = L at *
        cases neg
        · try refine run_s ?_
          refine sl_callC rfl rfl rfl rfl rfl rfl (Reverse_ct (t := t) (by simp) (by omega) f4) ?_
          rintro v U' M' hU ⟨rfl, rfl⟩
          try refine run_s ?_
          refine sl_y (yl_strB 0 sym rfl rfl rfl rfl rfl rfl rfl (by simp) (by simpa using hby)) rfl rfl rfl rfl ?_
          try refine run_s ?_
          exact sk_ret [] sym rfl (.cons (.tmp rfl) .nil) (ULe.refl _) (.cons _ (.cons _ hX)) (.inl rfl) ⟨rfl, rfl, rfl⟩
        · try refine run_s ?_
          refine sl_bslice (vs := [by8 45]) sym rfl rfl rfl rfl rfl rfl (by intro v hv; simp at hv; subst hv; rfl) rfl rfl rfl rfl rfl rfl (fun bo => ?_)
          refine sl_perm ?_ (List.Perm.swap ..)
          refine sl_append1B (D := [(b, .arr ((L.map (48 + ·)).map by8 ++ t), TU8)]) sym rfl rfl rfl rfl rfl (OwnB.arr (by simp) f2 f3 hby f4) rfl (by omega) (by omega) rfl rfl rfl rfl (fun q' cc' D' ho' => ?_)
          have hby2 := ho'.lt
          obtain ⟨b', t', rfl, rfl, g1, g2, g3, g4⟩ := ho'.form (by simp)
          try refine run_s ?_
          refine sl_callC rfl rfl rfl rfl rfl rfl (Reverse_ct (t := t') g1 (by omega) g4) ?_
          rintro v U' M' hU ⟨rfl, rfl⟩
          try refine run_s ?_
          refine sl_y (yl_strB 0 sym rfl rfl rfl rfl rfl rfl rfl (by simp) (fun d hd => hby2 d (List.mem_reverse.1 hd))) rfl rfl rfl rfl ?_
          try refine run_s ?_
          refine sk_ret [] sym rfl (.cons (.tmp rfl) .nil) (ULe.refl _) (.cons _ (.cons _ (.cons _ hX))) (.inl rfl) ⟨?_, rfl, rfl⟩
          rw [List.reverse_append]
          rfl

end Go.Proofs.YtcndgdjelopmaaaGreat

/- Walks of the laws' own helpers: awake, long. -/
namespace Go.Proofs.YtcndgdjelopmaaaGreat
open Go.Hp
variable {G : World} {U : UH} {M : MH}

theorem fmt_m4 : bstr (fmt (-4)) = ⟨#[45, 52]⟩ := by
  simp [bstr, fmt, dl_small]

/-- The integers of a list that the caller has made. -/
structure Ivs (U : UH) (M : MH) (b : Nat) (xs : List IV) : Prop where
  get : ∀ (k : Nat) (x : IV), xs[k]? = some x → ∀ (G : World) (w : World), Mem G U M w → w.cell? ⟨b, k * 2 + 1, none⟩ = some (.slice x.p x.n x.c)
  getN : ∀ (k : Nat) (x : IV), xs[k]? = some x → ∀ (G : World) (w : World), Mem G U M w → w.cell? ⟨b, k * 2, none⟩ = some (.bool x.neg)
theorem Ivs.app {b : Nat} {xs : List IV} (h : Ivs U M b xs) (M2 : MH) : Ivs U (M2 ++ M) b xs :=
  ⟨fun k x hk G w hw => h.get k x hk G w (hw.anti (ULe.refl U) (List.sublist_append_right ..)), fun k x hk G w hw => h.getN k x hk G w (hw.anti (ULe.refl U) (List.sublist_append_right ..))⟩
theorem ivs_cell {b tb k f : Nat} {xs : List IV} {x : IV} (hk : xs[k]? = some x) (hf : f < 2) {w : World} (hw : Mem G U ((b, .arr (xs.map IV.v), tb) :: M) w) : w.cell? ⟨b, k * 2 + f, none⟩ = x.v.cells.toList[f]? := by
  have h1 : ((b, Blk.arr (xs.map IV.v), tb) :: M)[0]? = some (b, .arr (xs.map IV.v), tb) := rfl
  rw [hw.cellM h1]
  have := flat_get (s := 2) (l := xs.map IV.v) (j := k) (k := f) (v := x.v) (fun u hu => by obtain ⟨y, _, rfl⟩ := List.mem_map.1 hu; rfl) (by rw [List.getElem?_map, hk]; rfl) hf
  simp only [Blk.cells, List.getElem?_toArray]
  exact this
theorem ivs_head {b tb : Nat} {xs : List IV} : Ivs U ((b, .arr (xs.map IV.v), tb) :: M) b xs :=
  ⟨fun k x hk G w hw => by rw [ivs_cell hk (by decide) hw]; rfl, fun k x hk G w hw => by
    have := ivs_cell (f := 0) hk (by decide) hw
    rw [Nat.add_zero] at this
    rw [this]; rfl⟩

end Go.Proofs.YtcndgdjelopmaaaGreat

/- The law on common divisors. -/
namespace Go.Proofs.YtcndgdjelopmaaaGreat
open Go.Hp
variable {G : World} {U : UH} {M : MH}

end Go.Proofs.YtcndgdjelopmaaaGreat
