/- Texts of this seat's own, merged: each begins with its own remark. -/
import Derived.Test.YtlnmhjkagnfnaaaM10
import Derived.Test.YtlnmhjkagnfnaaaM15
import Derived.Test.YtlnmhjkagnfnaaaB173
/- Walks of the reference for digits up to the reach of a claim: normal forms, signs, sums, differences, binary digits. -/
namespace Go.Proofs.Ytlnmhjkagnfnaaa
open Go.Hp
variable {G : World} {U : UH} {M : MH}

theorem trimW_ct {p : Option Addr} {n c : Nat} {l : List Nat} (h : Dig U M p n c l) (hn : n ≤ 35184372088832) :
    Ct Try.prog 37 [.slice p n c] G U M fun v U' D => ∃ q k cc, v = .slice q k cc ∧ Own D q k cc (tl l) ∧ k = (tl l).length ∧ U = U' := by
  have hcap := h.cap
  have hcm := h.capm
  have hle : (tl l).length ≤ n := by have := tl_length_le l; have := h.len; omega
  refine ct_of_st Try.func37 rfl rfl rfl rfl ?_
  refine st_seq ?_
  try refine run_o ?_
  refine st_seq ?_
  try refine run_o ?_
  refine st_seq_cut (fun E U' M' => E = [(3, .int .i64 ((tl l).length : Int)), (0, .slice p n c)] ∧ U = U' ∧ M = M') ?_ ?_
  · try refine run_s ?_
    refine st_loop (fun m E U' M' => ∃ k : Nat, k ≤ n ∧ tl (l.take k) = tl l ∧ E = [(3, .int .i64 (k : Int)), (0, .slice p n c)] ∧ U = U' ∧ M = M' ∧ k = m) (E0 := [(3, .int .i64 (n : Int)), (0, .slice p n c)]) (n0 := n) ⟨rfl, rfl, trivial⟩ ⟨n, Nat.le_refl _, by rw [List.take_of_length_le (by rw [h.len]; exact Nat.le_refl _)], rfl, rfl, rfl, rfl⟩ ?_
    rintro m E U' M' ⟨k, hk, htl, rfl, rfl, rfl, rfl⟩
    try refine run_s ?_
    refine sl_gdec rfl rfl (fun h0 => ?_) (fun h0 => ?_)
    · have hk0 : k - 1 < l.length := by rw [h.len]; omega
      have hd := List.getElem?_eq_getElem hk0
      obtain ⟨hp, hc⟩ := h.cell _ _ hd
      have hk1 : (k : Int) - 1 = ((k - 1 : Nat) : Int) := by omega
      try refine run_s ?_
      refine sl_y (yl_index1 sym rfl rfl rfl rfl rfl hk1 (by omega) hp) rfl rfl rfl rfl ?_
      refine sl_y (yl_loadD sym rfl rfl rfl rfl hc) rfl rfl rfl rfl ?_
      try refine run_s ?_
      refine st_eq rfl (fun h1 => ?_) (fun h1 => ?_)
      · try refine run_s ?_
        refine sk_again (E' := [(3, .int .i64 ((k : Int) - 1)), (0, .slice p n c)]) (m := k - 1) ⟨rfl, rfl, trivial⟩ (by omega) ⟨k - 1, by omega, ?_, by rw [hk1], rfl, rfl, rfl⟩
        have e := tl_take_succ (l := l) (k := k - 1) (by rw [hd]; congr 1; omega)
        rw [show k - 1 + 1 = k by omega] at e
        rw [← htl, e]
      · try refine run_s ?_
        have := tl_take_stop hd (by omega)
        rw [show k - 1 + 1 = k by omega, htl] at this
        exact sk_cut (E' := [(3, .int .i64 (k : Int)), (0, .slice p n c)]) ⟨rfl, rfl, trivial⟩ ⟨by rw [this, List.length_take, h.len, Nat.min_eq_left hk], rfl, rfl⟩
    · have hk0 : k = 0 := by omega
      subst hk0
      try refine run_s ?_
      exact sk_cut (E' := [(3, .int .i64 ((0 : Nat) : Int)), (0, .slice p n c)]) ⟨rfl, rfl, trivial⟩ ⟨by rw [← htl]; rfl, rfl, rfl⟩
  · rintro E U' M' ⟨rfl, rfl, rfl⟩
    repeat (first | refine run_S ?_ | refine w_box (fun _ => ?_) | refine w_al (fun _ => ?_))
    refine sl_bslice (vs := []) sym rfl rfl rfl rfl rfl rfl (by intro v hv; cases hv) rfl rfl rfl rfl rfl rfl (fun b => ?_)
    try refine run_s ?_
    refine sl_y (yl_sliceTo (h := (tl l).length) sym rfl rfl rfl rfl rfl rfl (by omega)) rfl rfl rfl rfl ?_
    have hrow : Row TU32 [(b, .arr [], TU32)] (some ⟨b, 0, none⟩) 0 0 [] := Row.row (r := []) (Nat.le_refl _) rfl (by omega)
    have hn1 := (h.tl.up (ULe.refl U) (List.sublist_cons_self (b, Blk.arr [], TU32) M)).news
    refine sl_append (D := [(b, .arr [], TU32)]) (M0 := M) (news := (tl l).map dg) (m := (tl l).length) sym rfl rfl rfl rfl rfl rfl rfl rfl hrow (by intro v hv; cases hv) ?_ (by rw [List.length_map]) (dg_size _) (dg_one _)
      (fun h => by
        obtain ⟨a0, h1, h2⟩ := hn1 h
        exact ⟨a0, h1, fun w hw => h2 w hw⟩) (by omega) (by omega) rfl rfl rfl rfl (fun p' cc D' hr' hs' => ?_)
    · intro k hk r hr v hv
      rw [List.mem_singleton.1 hk] at hr
      cases hr
      cases hv
    · try refine run_s ?_
      refine sk_ret D' sym rfl (.cons (.tmp rfl) .nil) (ULe.refl _) (List.Sublist.refl _) (.inl rfl) ?_
      rw [List.nil_append] at hr'
      exact ⟨_, _, _, rfl, Own.of_row hr' hs' h.tl.bd, by omega, rfl⟩

theorem NormW_ct {x : IV} {z : Int} (hx : x.rep U M z) (hn : x.n ≤ 35184372088832) :
    Ct Try.prog 38 [x.v] G U M fun v U' D => ∃ r : IV, v = r.v ∧ r.own D z ∧ U = U' := by
  obtain ⟨neg, p, n, c⟩ := x
  obtain ⟨l, hd, rfl⟩ := hx
  simp only at hd hn
  refine ct_of_st Try.func38 rfl rfl rfl rfl ?_
  repeat (first | refine run_S ?_ | refine w_box (fun _ => ?_) | refine w_al (fun _ => ?_))
  refine sl_call rfl rfl rfl rfl rfl rfl (fun _ => trimW_ct ((hd.up (ULe.refl _) (.cons _ (.cons _ (List.Sublist.refl _)))).app _) hn) ?_
  rintro v U' D hU ⟨q, k, cc, rfl, ho, rfl, rfl⟩
  refine sl_perm ?_ (perm2 (D := D))
  repeat (first | refine run_S ?_ | refine w_box (fun _ => ?_) | refine w_al (fun _ => ?_))
  have hown := own_signed (neg := neg) ho
  rw [tl_tl, val_tl] at hown
  cases neg
  · repeat (first | refine run_S ?_ | refine w_box (fun _ => ?_) | refine w_al (fun _ => ?_))
    exact sk_ret D sym rfl (.cons (.cell 0 rfl rfl rfl) .nil) (ULe.refl _) (.cons _ (.cons _ (List.Sublist.refl _))) (.inl rfl) ⟨⟨false, q, _, cc⟩, rfl, hown, rfl⟩
  · repeat (first | refine run_S ?_ | refine w_box (fun _ => ?_) | refine w_al (fun _ => ?_))
    refine sk_ret D sym rfl (.cons (.cell 0 rfl rfl rfl) .nil) (ULe.refl _) (.cons _ (.cons _ (List.Sublist.refl _))) (.inl rfl) ⟨_, ?_, hown, rfl⟩
    have e : dec (((tl l).length : Int) > 0) = dec (0 < (tl l).length) := by simp [dec_eq]
    show Value.agg #[.bool (dec (((tl l).length : Int) > 0)), .slice q (tl l).length cc] = _
    rw [e]; rfl

theorem rsignedW_ct {neg : Bool} {p : Option Addr} {n c : Nat} {l : List Nat} (hd : Dig U M p n c l) (hn : n ≤ 35184372088832) :
    Ct Try.prog 26 [.bool neg, .slice p n c] G U M fun v U' D => ∃ r : IV, v = r.v ∧ r.own D (sg neg (val l)) ∧ U = U' := by
  refine ct_of_st Try.func26 rfl rfl rfl rfl ?_
  repeat (first | refine run_S ?_ | refine w_box (fun _ => ?_) | refine w_al (fun _ => ?_))
  refine sl_call rfl rfl rfl rfl rfl rfl (fun _ => NormW_ct (x := ⟨neg, p, n, c⟩) ⟨l, (hd.up (ULe.refl _) (.cons _ (List.Sublist.refl _))).app _, rfl⟩ hn) ?_
  rintro v U' D hU ⟨r, rfl, ho, rfl⟩
  refine sl_perm ?_ (perm1 (D := D))
  repeat (first | refine run_S ?_ | refine w_box (fun _ => ?_) | refine w_al (fun _ => ?_))
  exact sk_ret D sym rfl (.cons (.cell 0 rfl rfl rfl) .nil) (ULe.refl _) (.cons _ (List.Sublist.refl _)) (.inl rfl) ⟨r, rfl, ho, rfl⟩

theorem rNegW_ct {x : IV} {z : Int} (hx : x.rep U M z) (hn : x.n ≤ 35184372088832) :
    Ct Try.prog 54 [x.v] G U M fun v U' D => ∃ r : IV, v = r.v ∧ r.own D (-z) ∧ U = U' := by
  obtain ⟨neg, p, n, c⟩ := x
  obtain ⟨l, hd, rfl⟩ := hx
  simp only at hd hn
  refine ct_of_st Try.func54 rfl rfl rfl rfl ?_
  repeat (first | refine run_S ?_ | refine w_box (fun _ => ?_) | refine w_al (fun _ => ?_))
  refine sl_call rfl rfl rfl rfl rfl rfl (fun _ => rsignedW_ct ((hd.up (ULe.refl _) (.cons _ (.cons _ (List.Sublist.refl _)))).app _) hn) ?_
  rintro v U' D hU ⟨r, rfl, ho, rfl⟩
  refine sl_perm ?_ (perm2 (D := D))
  repeat (first | refine run_S ?_ | refine w_box (fun _ => ?_) | refine w_al (fun _ => ?_))
  refine sk_ret D sym rfl (.cons (.cell 0 rfl rfl rfl) .nil) (ULe.refl _) (.cons _ (.cons _ (List.Sublist.refl _))) (.inl rfl) ⟨r, rfl, ?_, rfl⟩
  rwa [show sg (!neg) (val l) = -sg neg (val l) by cases neg <;> simp [sg]] at ho

theorem rAbsW_ct {x : IV} {z : Int} (hx : x.rep U M z) (hn : x.n ≤ 35184372088832) :
    Ct Try.prog 9 [x.v] G U M fun v U' D => ∃ r : IV, v = r.v ∧ r.own D (z.natAbs : Int) ∧ U = U' := by
  obtain ⟨neg, p, n, c⟩ := x
  obtain ⟨l, hd, rfl⟩ := hx
  simp only at hd hn
  refine ct_of_st Try.func9 rfl rfl rfl rfl ?_
  repeat (first | refine run_S ?_ | refine w_box (fun _ => ?_) | refine w_al (fun _ => ?_))
  refine sl_call rfl rfl rfl rfl rfl rfl (fun _ => rsignedW_ct ((hd.up (ULe.refl _) (.cons _ (.cons _ (List.Sublist.refl _)))).app _) hn) ?_
  rintro v U' D hU ⟨r, rfl, ho, rfl⟩
  refine sl_perm ?_ (perm2 (D := D))
  repeat (first | refine run_S ?_ | refine w_box (fun _ => ?_) | refine w_al (fun _ => ?_))
  refine sk_ret D sym rfl (.cons (.cell 0 rfl rfl rfl) .nil) (ULe.refl _) (.cons _ (.cons _ (List.Sublist.refl _))) (.inl rfl) ⟨r, rfl, ?_, rfl⟩
  rw [sg_natAbs]; exact ho

theorem rSignW_ct {x : IV} {z : Int} (hx : x.rep U M z) (hn : x.n ≤ 35184372088832) :
    Ct Try.prog 24 [x.v] G U M fun v U' D => v = .int .i64 z.sign ∧ U = U' ∧ D = [] := by
  refine ct_of_st Try.func24 rfl rfl rfl rfl ?_
  repeat (first | refine run_S ?_ | refine w_box (fun _ => ?_) | refine w_al (fun _ => ?_))
  refine sl_call rfl rfl rfl rfl rfl rfl (fun _ => NormW_ct ((hx.up (ULe.refl _) (.cons _ (List.Sublist.refl _))).up (ULe.refl _) (List.sublist_append_right ..)) hn) ?_
  rintro v U' D hU ⟨r, rfl, ⟨l, ho, cl, hv, hneg⟩, rfl⟩
  refine sl_perm ?_ (perm1 (D := D))
  obtain ⟨neg, p, n, c⟩ := r
  simp only at ho hneg
  have hl := ho.len.1
  repeat (first | refine run_S ?_ | refine w_box (fun _ => ?_) | refine w_al (fun _ => ?_))
  refine st_eq rfl (fun h0 => ?_) (fun h0 => ?_)
  · repeat (first | refine run_S ?_ | refine w_box (fun _ => ?_) | refine w_al (fun _ => ?_))
    refine sk_ret [] sym rfl (.cons (.tmp rfl) .nil) (ULe.refl _) ((List.sublist_append_right D M).trans (List.Sublist.cons _ (.cons _ (List.Sublist.refl _)))) (.inl rfl) ⟨?_, rfl, rfl⟩
    have h0' : (n : Int) = 0 := h0
    have hl0 : l = [] := List.eq_nil_of_length_eq_zero (by omega)
    have hv0 : (0 : Nat) = z.natAbs := by rw [← hv, hl0]; rfl
    have hz0 : z = 0 := by omega
    rw [hz0]; rfl
  · have hz : z ≠ 0 := by
      intro h
      subst h
      have h0' : (n : Int) ≠ 0 := h0
      rw [cl.zero.1 hv] at hl
      simp only [List.length_nil] at hl
      omega
    repeat (first | refine run_S ?_ | refine w_box (fun _ => ?_) | refine w_al (fun _ => ?_))
    by_cases h1 : z < 0
    · rw [decide_eq_true h1] at hneg
      subst hneg
      repeat (first | refine run_S ?_ | refine w_box (fun _ => ?_) | refine w_al (fun _ => ?_))
      refine sk_ret [] sym rfl (.cons (.tmp rfl) .nil) (ULe.refl _) ((List.sublist_append_right D M).trans (List.Sublist.cons _ (.cons _ (List.Sublist.refl _)))) (.inl rfl) ⟨?_, rfl, rfl⟩
      rw [Int.sign_eq_neg_one_of_neg h1]; rfl
    · rw [decide_eq_false h1] at hneg
      subst hneg
      repeat (first | refine run_S ?_ | refine w_box (fun _ => ?_) | refine w_al (fun _ => ?_))
      refine sk_ret [] sym rfl (.cons (.tmp rfl) .nil) (ULe.refl _) ((List.sublist_append_right D M).trans (List.Sublist.cons _ (.cons _ (List.Sublist.refl _)))) (.inl rfl) ⟨?_, rfl, rfl⟩
      rw [Int.sign_eq_one_of_pos (by omega)]; rfl

theorem rBitsW_ct {x : IV} {z : Int} (hx : x.rep U M z) (hn : x.n ≤ 35184372088832) :
    Ct Try.prog 56 [x.v] G U M fun v U' D => v = .int .i64 (blen z.natAbs : Int) ∧ U = U' ∧ D = [] := by
  obtain ⟨neg, p, n, c⟩ := x
  obtain ⟨l, hd, rfl⟩ := hx
  simp only at hd hn
  rw [sg_natAbs, ← val_tl l]
  have hc := cn_tl hd.bd
  have hle : (tl l).length ≤ n := by have := tl_length_le l; have := hd.len; omega
  refine ct_of_st Try.func56 rfl rfl rfl rfl ?_
  repeat (first | refine run_S ?_ | refine w_box (fun _ => ?_) | refine w_al (fun _ => ?_))
  rename_i b1
  refine sl_call rfl rfl rfl rfl rfl rfl (fun _ => trimW_ct (hd.up (ULe.refl _) sb) hn) ?_
  rintro v U' D1 hU ⟨q, k, cc, rfl, o, hk, rfl⟩
  generalize tl l = a at *
  repeat (first | refine run_S ?_ | refine w_box (fun _ => ?_) | refine w_al (fun _ => ?_))
  refine st_eq rfl (fun h0 => ?_) (fun h0 => ?_)
  · have ha : a = [] := List.eq_nil_of_length_eq_zero (by omega)
    repeat (first | refine run_S ?_ | refine w_box (fun _ => ?_) | refine w_al (fun _ => ?_))
    refine sk_ret [] sym rfl (.cons (.tmp rfl) .nil) (ULe.refl _) sb (.inl rfl) ⟨?_, rfl, rfl⟩
    rw [ha]; rfl
  · rcases snoc_cases a with rfl | ⟨r, d, rfl⟩
    · exact absurd (by rw [hk]; rfl) h0
    have hd0 := hc.last
    have hbl := blen_val (r := r) (d := d) (fun x hx => hc.bd x (List.mem_append_left _ hx)) hd0
    have hlen : (r ++ [d]).length = r.length + 1 := by simp
    have hdg : Dig U (D1 ++ (b1, .var (IV.mk neg p n c).v, 24) :: M) q k cc (r ++ [d]) := o.dig
    obtain ⟨d', hx, hbx, hp, hcx⟩ := hdg.get (k := r.length) (by omega)
    rw [List.getElem?_append_right (Nat.le_refl _), Nat.sub_self] at hx
    cases hx
    rw [hbl]
    have hk1 : (k : Int) - 1 = ((r.length : Nat) : Int) := by omega
    repeat (first | refine run_S ?_ | refine w_box (fun _ => ?_) | refine w_al (fun _ => ?_))
    refine sl_y (yl_index1 sym rfl rfl rfl rfl rfl (hk1) (by first | omega | assumption) hp) rfl rfl rfl rfl ?_; refine sl_y (yl_loadD sym rfl rfl rfl rfl hcx) rfl rfl rfl rfl ?_
    repeat (first | refine run_S ?_ | refine w_box (fun _ => ?_) | refine w_al (fun _ => ?_))
    rw [show (32 : Int) * ((k : Int) - 1) = ((32 * r.length : Nat) : Int) by omega]
    refine st_loop (fun m E U' M' => ∃ (k' w : Nat), w < 4294967296 ∧ k' + blen w = 32 * r.length + blen d ∧ E = [(5, .int .u32 (w : Int)), (4, .int .i64 (k' : Int))] ∧ U = U' ∧ M' = (D1 ++ (b1, .var (IV.mk neg p n c).v, 24) :: M) ∧ w = m) (n0 := d)
      (E0 := [(5, .int .u32 (d : Int)), (4, .int .i64 ((32 * r.length : Nat) : Int))]) ⟨rfl, rfl, trivial⟩
      ⟨32 * r.length, d, hbx, rfl, rfl, rfl, rfl, rfl⟩ ?_
    rintro m E U' M' ⟨k', w, hw, hkw, rfl, rfl, rfl, rfl⟩
    try refine run_s ?_
    refine st_dec rfl (fun h5 => ?_) (fun h5 => ?_)
    · have hb32 : blen w ≤ 32 := blen_le_of (k := 32) (by omega)
      have hb2 := blen_half (n := w) (by omega)
      have hd32 : blen d ≤ 32 := blen_le_of (k := 32) (by omega)
      rw [hlen] at hle
      try refine run_s ?_
      have e10 : IntKind.u32.wrap ((w : Int).tdiv 2) = ((w / 2 : Nat) : Int) := by
        rw [Int.tdiv_eq_ediv_of_nonneg (by omega), wrap_in (by omega) (by simp only [kmax]; omega)]; omega
      rw [e10]
      exact sk_again (E' := [(5, .int .u32 ((w / 2 : Nat) : Int)), (4, .int .i64 ((k' : Int) + 1))]) (m := w / 2) ⟨rfl, rfl, trivial⟩ (by omega) ⟨k' + 1, w / 2, by omega, by omega, rfl, rfl, rfl, rfl⟩
    · have hw0 : w = 0 := by omega
      subst hw0
      try refine run_s ?_
      refine sk_ret [] sym rfl (.cons (.tmp rfl) .nil) (ULe.refl _) sb (.inl rfl) ⟨?_, rfl, rfl⟩
      rw [← hkw, blen_zero]; rfl

theorem rplusW_ct {p p' : Option Addr} {n c n' c' : Nat} {a b : List Nat} (ha : Dig U M p n c a) (hb : Dig U M p' n' c' b) (hn : n ≤ 35184372088824) (hn' : n' ≤ 35184372088824) :
    Ct Try.prog 39 [.slice p n c, .slice p' n' c'] G U M fun v U' D => ∃ q k cc l, v = .slice q k cc ∧ Own D q k cc l ∧ val l = val a + val b ∧ k = max n n' + 1 ∧ U = U' := by
  have hla := ha.len
  have hlb := hb.len
  have h3 := ha.cap; have h4 := ha.capm; have h5 := hb.cap; have h6 := hb.capm
  refine ct_of_st Try.func39 rfl rfl rfl rfl ?_
  refine st_seq ?_
  try refine run_o ?_
  refine st_seq ?_
  try refine run_o ?_
  refine st_seq ?_
  try refine run_o ?_
  refine st_seq_cut (fun E U' M' => ∃ (cy : Nat) (r : List Nat) (q : Option Addr) (cc : Nat) (D X : MH), cy ≤ 1 ∧ Own D q (max n n') cc r ∧ val r + 4294967296 ^ (max n n') * cy = val a + val b ∧
      E = [(5, .slice q (max n n') cc), (6, .int .u64 (cy : Int))] ∧ U = U' ∧ M' = D ++ X ∧ M.Sublist X) ?_ ?_
  · try refine run_s ?_
    refine st_loop (fun m E U' M' => ∃ (i cy : Nat) (r : List Nat) (q : Option Addr) (cc : Nat) (D X : MH), i ≤ max n n' ∧ cy ≤ 1 ∧ Own D q i cc r ∧ val r + 4294967296 ^ i * cy = val (a.take i) + val (b.take i) ∧
        E = [(7, .int .i64 (i : Int)), (5, .slice q i cc), (6, .int .u64 (cy : Int)), (0, .slice p n c), (1, .slice p' n' c')] ∧ U = U' ∧ M' = D ++ X ∧ M.Sublist X ∧ m = max n n' - i) (n0 := max n n')
      (E0 := [(7, .int .i64 ((0 : Nat) : Int)), (5, .slice none 0 0), (6, .int .u64 ((0 : Nat) : Int)), (0, .slice p n c), (1, .slice p' n' c')]) ⟨rfl, rfl, rfl, rfl, rfl, trivial⟩
      ⟨0, 0, [], none, 0, [], M, by omega, by omega, Own.nil, by simp [val], rfl, rfl, rfl, List.Sublist.refl _, rfl⟩ ?_
    rintro m E U' M' ⟨i, cy, r, q, cc, D, X, hi, hcy, ho, hv, rfl, rfl, rfl, hX, rfl⟩
    refine st_seq_cut (fun E U' M' => i < max n n' ∧ E = [(7, .int .i64 (i : Int)), (5, .slice q i cc), (6, .int .u64 (cy : Int)), (0, .slice p n c), (1, .slice p' n' c')] ∧ U = U' ∧ D ++ X = M') ?_ ?_
    · try refine run_s ?_
      refine sl_gdec rfl rfl (fun h0 => ?_) (fun h0 => ?_)
      · try refine run_s ?_
        exact sk_cut (E' := [(7, .int .i64 (i : Int)), (5, .slice q i cc), (6, .int .u64 (cy : Int)), (0, .slice p n c), (1, .slice p' n' c')]) ⟨rfl, rfl, rfl, rfl, rfl, trivial⟩ ⟨by omega, rfl, rfl, rfl⟩
      · try refine run_s ?_
        refine st_dec rfl (fun h1 => ?_) (fun h1 => ?_)
        · try refine run_s ?_
          exact sk_cut (E' := [(7, .int .i64 (i : Int)), (5, .slice q i cc), (6, .int .u64 (cy : Int)), (0, .slice p n c), (1, .slice p' n' c')]) ⟨rfl, rfl, rfl, rfl, rfl, trivial⟩ ⟨by omega, rfl, rfl, rfl⟩
        · have hi' : i = max n n' := by omega
          subst hi'
          try refine run_s ?_
          exact sk_cut (E' := [(5, .slice q (max n n') cc), (6, .int .u64 (cy : Int))]) ⟨rfl, rfl, trivial⟩ ⟨cy, r, q, cc, D, X, hcy, ho, by rw [hv, take_all (by omega), take_all (by omega)], rfl, rfl, rfl, hX⟩
    rintro E U' M' ⟨hlt, rfl, rfl, rfl⟩
    try refine run_o ?_
    refine st_seq ?_
    refine st_block ?_
    refine st_seq ?_
    try refine run_o ?_
    refine st_seq_cut (fun E U' M' => ∃ x : Nat, x < 4294967296 ∧ val (a.take (i + 1)) = val (a.take i) + 4294967296 ^ i * x ∧ E = [(8, .int .u64 ((cy + x : Nat) : Int)), (7, .int .i64 (i : Int)), (5, .slice q i cc), (6, .int .u64 (cy : Int)), (0, .slice p n c), (1, .slice p' n' c')] ∧ U = U' ∧ D ++ X = M') ?_ ?_
    · try refine run_s ?_
      refine st_dec rfl (fun h0 => ?_) (fun h0 => ?_)
      · obtain ⟨x, hx, hbx, hp, hcx⟩ := (ha.up (U' := U) (M' := D ++ X) (ULe.refl _) (hX.trans (List.sublist_append_right ..))).get (k := i) (by omega)
        try refine run_s ?_
        refine sl_y (yl_index1 sym rfl rfl rfl rfl rfl rfl (by omega) hp) rfl rfl rfl rfl ?_; refine sl_y (yl_loadD sym rfl rfl rfl rfl hcx) rfl rfl rfl rfl ?_
        try refine run_s ?_
        exact sk_cut (E' := [(8, .int .u64 ((cy + x : Nat) : Int)), (7, .int .i64 (i : Int)), (5, .slice q i cc), (6, .int .u64 (cy : Int)), (0, .slice p n c), (1, .slice p' n' c')]) ⟨rfl, rfl, rfl, rfl, rfl, rfl, trivial⟩ ⟨x, hbx, val_take_succ hx, rfl, rfl, rfl⟩
      · try refine run_s ?_
        exact sk_cut (E' := [(8, .int .u64 ((cy + 0 : Nat) : Int)), (7, .int .i64 (i : Int)), (5, .slice q i cc), (6, .int .u64 (cy : Int)), (0, .slice p n c), (1, .slice p' n' c')]) ⟨rfl, rfl, rfl, rfl, rfl, rfl, trivial⟩ ⟨0, by omega, take_more (by omega), rfl, rfl, rfl⟩
    rintro E U' M' ⟨x, hbx, hvx, rfl, rfl, rfl⟩
    refine st_seq_cut (fun E U' M' => ∃ y : Nat, y < 4294967296 ∧ val (b.take (i + 1)) = val (b.take i) + 4294967296 ^ i * y ∧ E = [(8, .int .u64 ((cy + x + y : Nat) : Int)), (7, .int .i64 (i : Int)), (5, .slice q i cc), (6, .int .u64 (cy : Int)), (0, .slice p n c), (1, .slice p' n' c')] ∧ U = U' ∧ D ++ X = M') ?_ ?_
    · try refine run_s ?_
      refine st_dec rfl (fun h0 => ?_) (fun h0 => ?_)
      · obtain ⟨y, hy, hby, hp, hcy'⟩ := (hb.up (U' := U) (M' := D ++ X) (ULe.refl _) (hX.trans (List.sublist_append_right ..))).get (k := i) (by omega)
        try refine run_s ?_
        refine sl_y (yl_index1 sym rfl rfl rfl rfl rfl rfl (by omega) hp) rfl rfl rfl rfl ?_; refine sl_y (yl_loadD sym rfl rfl rfl rfl hcy') rfl rfl rfl rfl ?_
        try refine run_s ?_
        exact sk_cut (E' := [(8, .int .u64 ((cy + x + y : Nat) : Int)), (7, .int .i64 (i : Int)), (5, .slice q i cc), (6, .int .u64 (cy : Int)), (0, .slice p n c), (1, .slice p' n' c')]) ⟨rfl, rfl, rfl, rfl, rfl, rfl, trivial⟩ ⟨y, hby, val_take_succ hy, rfl, rfl, rfl⟩
      · try refine run_s ?_
        exact sk_cut (E' := [(8, .int .u64 ((cy + x + 0 : Nat) : Int)), (7, .int .i64 (i : Int)), (5, .slice q i cc), (6, .int .u64 (cy : Int)), (0, .slice p n c), (1, .slice p' n' c')]) ⟨rfl, rfl, rfl, rfl, rfl, rfl, trivial⟩ ⟨0, by omega, take_more (by omega), rfl, rfl, rfl⟩
    rintro E U' M' ⟨y, hby, hvy, rfl, rfl, rfl⟩
    generalize hs : cy + x + y = s at *
    try refine run_s ?_
    rw [show (s : Int) % 4294967296 = ((s % 4294967296 : Nat) : Int) by omega]
    refine sl_bslice (vs := [dg (s % 4294967296)]) sym rfl rfl rfl rfl rfl rfl (by intro v hv; simp at hv; subst hv; rfl) rfl rfl rfl rfl rfl rfl (fun bo => ?_)
    have hone : ∀ {U : UH} {M : MH}, Dig U ((bo, .arr [dg (s % 4294967296)], TU32) :: M) (some ⟨bo, 0, none⟩) 1 1 [s % 4294967296] := fun {U M} =>
      (Own.row (b := bo) (r := [s % 4294967296]) (Nat.le_refl 1) rfl (by omega) (by intro d hd; simp at hd; omega)).dig (U := U) (M := M)
    refine sl_perm ?_ (perm1 (D := D)).symm
    have hq2 : Dig U (D ++ (bo, .arr [dg (s % 4294967296)], TU32) :: X) (some ⟨bo, 0, none⟩) 1 1 [s % 4294967296] := hone.app D
    refine sl_appendD (D := D) (X := (bo, .arr [dg (s % 4294967296)], TU32) :: X) (m := 1) sym rfl rfl rfl rfl rfl ho rfl hq2 (by omega) rfl rfl rfl rfl (fun q2 cc2 D2 ho2 => ?_)
    try refine run_s ?_
    refine sk_again (E' := [(7, .int .i64 ((i : Int) + 1)), (5, .slice q2 (i + 1) cc2), (6, .int .u64 ((s : Int) / 2 ^ 32)), (0, .slice p n c), (1, .slice p' n' c')]) (m := max n n' - (i + 1)) ⟨rfl, rfl, rfl, rfl, rfl, trivial⟩ (by omega)
      ⟨i + 1, s / 4294967296, r ++ [s % 4294967296], q2, cc2, D2, (bo, .arr [dg (s % 4294967296)], TU32) :: X, by omega, by omega, ho2, ?_, by rw [show ((s / 4294967296 : Nat) : Int) = (s : Int) / 2 ^ 32 by omega]; rfl, rfl, rfl, hX.cons _, rfl⟩
    have e5 : 4294967296 ^ i * (s % 4294967296 + 4294967296 * (s / 4294967296)) = 4294967296 ^ i * (cy + x + y) := by rw [hs, Nat.mod_add_div]
    rw [val_snoc, ho.len.1, hvx, hvy, Nat.pow_succ]
    simp only [Nat.mul_add, Nat.mul_assoc] at *
    omega
  · rintro E U' M' ⟨cy, r, q, cc, D, X, hcy, ho, hv, rfl, rfl, rfl, hX⟩
    repeat (first | refine run_S ?_ | refine w_box (fun _ => ?_) | refine w_al (fun _ => ?_))
    refine sl_bslice (vs := [dg cy]) sym rfl rfl rfl rfl rfl rfl (by intro v hv; simp at hv; subst hv; rfl) rfl rfl rfl rfl rfl rfl (fun bo => ?_)
    have hone : ∀ {U : UH} {M : MH}, Dig U ((bo, .arr [dg cy], TU32) :: M) (some ⟨bo, 0, none⟩) 1 1 [cy] := fun {U M} =>
      (Own.row (b := bo) (r := [cy]) (Nat.le_refl 1) rfl (by omega) (by intro d hd; simp at hd; omega)).dig (U := U) (M := M)
    refine sl_perm ?_ (perm1 (D := D)).symm
    have hq2 : Dig U (D ++ (bo, .arr [dg cy], TU32) :: X) (some ⟨bo, 0, none⟩) 1 1 [cy] := hone.app D
    refine sl_appendD (D := D) (X := (bo, .arr [dg cy], TU32) :: X) (m := 1) sym rfl rfl rfl rfl rfl ho rfl hq2 (by omega) rfl rfl rfl rfl (fun q2 cc2 D2 ho2 => ?_)
    repeat (first | refine run_S ?_ | refine w_box (fun _ => ?_) | refine w_al (fun _ => ?_))
    refine sk_ret D2 sym rfl (.cons (.tmp rfl) .nil) (ULe.refl _) (List.Sublist.append (List.Sublist.refl D2) (hX.cons _)) (.inl rfl) ⟨q2, _, cc2, r ++ [cy], rfl, ho2, ?_, rfl, rfl⟩
    rw [val_snoc, ho.len.1, hv]

theorem rminusW_ct {p p' : Option Addr} {n c n' c' : Nat} {a b : List Nat} (ha : Dig U M p n c a) (hb : Dig U M p' n' c' b) (hn : n ≤ 35184372088832) (hle : n' ≤ n) (hval : val b ≤ val a) :
    Ct Try.prog 41 [.slice p n c, .slice p' n' c'] G U M fun v U' D => ∃ q k cc l, v = .slice q k cc ∧ Own D q k cc l ∧ val l = val a - val b ∧ k = n ∧ U = U' := by
  have hla := ha.len
  have hlb := hb.len
  have h3 := ha.cap; have h4 := ha.capm; have h5 := hb.cap; have h6 := hb.capm
  refine ct_of_st Try.func41 rfl rfl rfl rfl ?_
  try refine run_s ?_
  refine st_loop (fun m E U' M' => ∃ (i bw : Nat) (r : List Nat) (q : Option Addr) (cc : Nat) (D X : MH), i ≤ n ∧ bw ≤ 1 ∧ Own D q i cc r ∧ val r + val (b.take i) = val (a.take i) + 4294967296 ^ i * bw ∧
      E = [(7, .int .i64 (i : Int)), (5, .slice q i cc), (6, .int .u64 (bw : Int)), (0, .slice p n c), (1, .slice p' n' c')] ∧ U = U' ∧ M' = D ++ X ∧ M.Sublist X ∧ m = n - i) (n0 := n)
    (E0 := [(7, .int .i64 ((0 : Nat) : Int)), (5, .slice none 0 0), (6, .int .u64 ((0 : Nat) : Int)), (0, .slice p n c), (1, .slice p' n' c')]) ⟨rfl, rfl, rfl, rfl, rfl, trivial⟩
    ⟨0, 0, [], none, 0, [], M, by omega, by omega, Own.nil, by simp [val], rfl, rfl, rfl, List.Sublist.refl _, rfl⟩ ?_
  rintro m E U' M' ⟨i, bw, r, q, cc, D, X, hi, hbw, ho, hv, rfl, rfl, rfl, hX, rfl⟩
  try refine run_s ?_
  refine st_dec rfl (fun h0 => ?_) (fun h0 => ?_)
  · obtain ⟨x, hx, hbx, hpx, hcx⟩ := (ha.up (U' := U) (M' := D ++ X) (ULe.refl _) (hX.trans (List.sublist_append_right ..))).get (k := i) (by omega)
    try refine run_o ?_
    refine st_seq ?_
    refine st_block ?_
    refine st_seq ?_
    try refine run_o ?_
    refine st_seq_cut (fun E U' M' => ∃ y : Nat, y < 4294967296 ∧ val (b.take (i + 1)) = val (b.take i) + 4294967296 ^ i * y ∧ E = [(8, .int .u64 ((bw + y : Nat) : Int)), (7, .int .i64 (i : Int)), (5, .slice q i cc), (0, .slice p n c), (1, .slice p' n' c')] ∧ U = U' ∧ D ++ X = M') ?_ ?_
    · try refine run_s ?_
      refine st_dec rfl (fun h0 => ?_) (fun h0 => ?_)
      · obtain ⟨y, hy, hby, hp, hcy'⟩ := (hb.up (U' := U) (M' := D ++ X) (ULe.refl _) (hX.trans (List.sublist_append_right ..))).get (k := i) (by omega)
        try refine run_s ?_
        refine sl_y (yl_index1 sym rfl rfl rfl rfl rfl rfl (by omega) hp) rfl rfl rfl rfl ?_; refine sl_y (yl_loadD sym rfl rfl rfl rfl hcy') rfl rfl rfl rfl ?_
        try refine run_s ?_
        exact sk_cut (E' := [(8, .int .u64 ((bw + y : Nat) : Int)), (7, .int .i64 (i : Int)), (5, .slice q i cc), (0, .slice p n c), (1, .slice p' n' c')]) ⟨rfl, rfl, rfl, rfl, rfl, trivial⟩ ⟨y, hby, val_take_succ hy, rfl, rfl, rfl⟩
      · try refine run_s ?_
        exact sk_cut (E' := [(8, .int .u64 ((bw + 0 : Nat) : Int)), (7, .int .i64 (i : Int)), (5, .slice q i cc), (0, .slice p n c), (1, .slice p' n' c')]) ⟨rfl, rfl, rfl, rfl, rfl, trivial⟩ ⟨0, by omega, take_more (by omega), rfl, rfl, rfl⟩
    rintro E U' M' ⟨y, hby, hvy, rfl, rfl, rfl⟩
    generalize hs : bw + y = s at *
    refine st_seq ?_
    try refine run_o ?_
    refine st_seq ?_
    try refine run_o ?_
    refine sl_y (yl_index1 sym rfl rfl rfl rfl rfl rfl (by omega) hpx) rfl rfl rfl rfl ?_; refine sl_y (yl_loadD sym rfl rfl rfl rfl hcx) rfl rfl rfl rfl ?_
    try refine run_o ?_
    refine st_seq_cut (fun E U' M' => ∃ t bw' : Nat, bw' ≤ 1 ∧ t = x + 4294967296 * bw' ∧ s ≤ t ∧ t < s + 4294967296 ∧ E = [(9, .int .u64 (t : Int)), (6, .int .u64 (bw' : Int)), (8, .int .u64 (s : Int)), (7, .int .i64 (i : Int)), (5, .slice q i cc), (0, .slice p n c), (1, .slice p' n' c')] ∧ U = U' ∧ D ++ X = M') ?_ ?_
    · try refine run_s ?_
      refine st_dec rfl (fun h1 => ?_) (fun h1 => ?_)
      · try refine run_s ?_
        exact sk_cut (E' := [(9, .int .u64 ((x : Int) + 4294967296)), (6, .int .u64 ((1 : Nat) : Int)), (8, .int .u64 (s : Int)), (7, .int .i64 (i : Int)), (5, .slice q i cc), (0, .slice p n c), (1, .slice p' n' c')]) ⟨rfl, rfl, rfl, rfl, rfl, rfl, rfl, trivial⟩ ⟨x + 4294967296, 1, by omega, by omega, by omega, by omega, rfl, rfl, rfl⟩
      · try refine run_s ?_
        exact sk_cut (E' := [(9, .int .u64 (x : Int)), (6, .int .u64 ((0 : Nat) : Int)), (8, .int .u64 (s : Int)), (7, .int .i64 (i : Int)), (5, .slice q i cc), (0, .slice p n c), (1, .slice p' n' c')]) ⟨rfl, rfl, rfl, rfl, rfl, rfl, rfl, trivial⟩ ⟨x, 0, by omega, by omega, by omega, by omega, rfl, rfl, rfl⟩
    rintro E U' M' ⟨t, bw', hb1, ht, hst, hts, rfl, rfl, rfl⟩
    obtain ⟨d, hd⟩ : ∃ d, t = s + d := ⟨t - s, by omega⟩
    have hdi : (t : Int) - (s : Int) = (d : Int) := by omega
    have hdb : d < 4294967296 := by omega
    have ht64 : t < 18446744073709551616 := by omega
    try refine run_s ?_
    try rw [hdi]
    refine sl_bslice (vs := [dg d]) sym rfl rfl rfl rfl rfl rfl (by intro v hv; simp at hv; subst hv; rfl) rfl rfl rfl rfl rfl rfl (fun bo => ?_)
    have hone : ∀ {U : UH} {M : MH}, Dig U ((bo, .arr [dg d], TU32) :: M) (some ⟨bo, 0, none⟩) 1 1 [d] := fun {U M} =>
      (Own.row (b := bo) (r := [d]) (Nat.le_refl 1) rfl (by omega) (by intro d hd; simp at hd; omega)).dig (U := U) (M := M)
    refine sl_perm ?_ (perm1 (D := D)).symm
    have hq2 : Dig U (D ++ (bo, .arr [dg d], TU32) :: X) (some ⟨bo, 0, none⟩) 1 1 [d] := hone.app D
    refine sl_appendD (D := D) (X := (bo, .arr [dg d], TU32) :: X) (m := 1) sym rfl rfl rfl rfl rfl ho rfl hq2 (by omega) rfl rfl rfl rfl (fun q2 cc2 D2 ho2 => ?_)
    try refine run_s ?_
    refine sk_again (E' := [(7, .int .i64 ((i : Int) + 1)), (5, .slice q2 (i + 1) cc2), (6, .int .u64 (bw' : Int)), (0, .slice p n c), (1, .slice p' n' c')]) (m := n - (i + 1)) ⟨rfl, rfl, rfl, rfl, rfl, trivial⟩ (by omega)
      ⟨i + 1, bw', r ++ [d], q2, cc2, D2, (bo, .arr [dg d], TU32) :: X, by omega, hb1, ho2, ?_, rfl, rfl, rfl, hX.cons _, rfl⟩
    have e5 : 4294967296 ^ i * (bw + y + d) = 4294967296 ^ i * (x + 4294967296 * bw') := by rw [hs, ← hd, ht]
    rw [val_snoc, ho.len.1, val_take_succ hx, hvy, Nat.pow_succ]
    simp only [Nat.mul_add, Nat.mul_assoc] at *
    omega
  · have hi' : i = n := by omega
    subst hi'
    try refine run_s ?_
    refine sk_ret D sym rfl (.cons (.tmp rfl) .nil) (ULe.refl _) (List.Sublist.append (List.Sublist.refl D) hX) (.inl rfl) ⟨q, i, cc, r, rfl, ho, ?_, rfl, rfl⟩
    rw [take_all (by omega), take_all (by omega)] at hv
    have hrl := val_lt (ho.dig (U := U) (M := M)).bd
    rw [ho.len.1] at hrl
    have : bw = 0 := by
      rcases Nat.eq_zero_or_pos bw with h | h
      · exact h
      · have : bw = 1 := by omega
        subst this
        omega
    subst this
    omega

theorem rAddW_ct {x y : IV} {z u : Int} (hx : x.rep U M z) (hn : x.n ≤ 35184372088824) (hy : y.rep U M u) (hn' : y.n ≤ 35184372088824) :
    Ct Try.prog 14 [x.v, y.v] G U M fun v U' D => ∃ r : IV, v = r.v ∧ r.own D (z + u) ∧ U = U' := by
  refine ct_of_st Try.func14 rfl rfl rfl rfl ?_
  repeat (first | refine run_S ?_ | refine w_box (fun _ => ?_) | refine w_al (fun _ => ?_))
  refine st_draw [0, 2, 1, 3, 4, 5, 6, 7] sym (by kernel_rfl) ?_
  repeat (first | refine run_S ?_ | refine w_box (fun _ => ?_) | refine w_al (fun _ => ?_))
  refine sl_call rfl rfl rfl rfl rfl rfl (fun _ => NormW_ct ((hx.up (ULe.refl _) (.cons _ (.cons _ (.cons _ (List.Sublist.refl _))))).up (ULe.refl _) (List.sublist_append_right ..)) (by omega)) ?_
  rintro v U' D1 hU ⟨⟨neg1, p1, n1, c1⟩, rfl, h1, rfl⟩
  refine sl_perm ?_ (perm3 (D := D1))
  repeat (first | refine run_S ?_ | refine w_box (fun _ => ?_) | refine w_al (fun _ => ?_))
  refine sl_call rfl rfl rfl rfl rfl rfl (fun _ => NormW_ct (((hy.up (ULe.refl _) (List.sublist_append_right D1 _)).up (ULe.refl _) (.cons _ (.cons _ (.cons _ (List.Sublist.refl _))))).up (ULe.refl _) (List.sublist_append_right ..)) (by omega)) ?_
  rintro v U' D2 hU ⟨⟨neg2, p2, n2, c2⟩, rfl, h2, rfl⟩
  refine sl_perm ?_ (perm3 (D := D2))
  repeat (first | refine run_S ?_ | refine w_box (fun _ => ?_) | refine w_al (fun _ => ?_))
  obtain ⟨l1, o1, k1, v1, s1⟩ := h1
  obtain ⟨l2, o2, k2, v2, s2⟩ := h2
  simp only at o1 o2 s1 s2
  have hs1 : z = sg neg1 (val l1) := by rw [v1, s1]; unfold sg; by_cases h : z < 0 <;> simp [h] <;> omega
  have hs2 : u = sg neg2 (val l2) := by rw [v2, s2]; unfold sg; by_cases h : u < 0 <;> simp [h] <;> omega
  have b1 : Bd l1 := k1.bd
  have g1 := o1.len
  have g2 := o2.len
  have hn1 : n1 ≤ 35184372088824 := by
    obtain ⟨l, hd, hz⟩ := hx
    have e := k1.len_le hd.bd (by rw [v1, hz, sg_natAbs]; exact Nat.le_refl _)
    have := hd.len
    omega
  have hn2 : n2 ≤ 35184372088824 := by
    obtain ⟨l, hd, hz⟩ := hy
    have e := k2.len_le hd.bd (by rw [v2, hz, sg_natAbs]; exact Nat.le_refl _)
    have := hd.len
    omega
  rw [hs1, hs2]
  clear s1 s2 hs1 hs2
  by_cases he : neg1 = neg2
  · subst he
    rw [show ((IV.mk neg1 p1 n1 c1).neg == (IV.mk neg1 p2 n2 c2).neg) = true by cases neg1 <;> rfl]
    repeat (first | refine run_S ?_ | refine w_box (fun _ => ?_) | refine w_al (fun _ => ?_))
    refine st_draw [0, 1, 2, 3, 4, 5, 6, 7, 8] sym (by kernel_rfl) ?_
    repeat (first | refine run_S ?_ | refine w_box (fun _ => ?_) | refine w_al (fun _ => ?_))
    refine sl_call rfl rfl rfl rfl rfl rfl (fun _ => rplusW_ct (((((o1.dig (M := M)).app D2).up (ULe.refl _) (.cons _ (.cons _ (.cons _ (.cons _ (.cons _ (List.Sublist.refl _)))))))).app _) (((o2.dig (M := D1 ++ M)).up (ULe.refl _) (.cons _ (.cons _ (.cons _ (.cons _ (.cons _ (List.Sublist.refl _))))))).app _) (Nat.le_trans hn1 (by decide)) (Nat.le_trans hn2 (by decide))) ?_
    rintro v U' D3 hU ⟨q, k, cc, l3, rfl, ho, hv, hk, rfl⟩
    repeat (first | refine run_S ?_ | refine w_box (fun _ => ?_) | refine w_al (fun _ => ?_))
    refine sl_call rfl rfl rfl rfl rfl rfl (fun _ => rsignedW_ct (ho.dig.app _) (by have hk2 : k = max n1 n2 + 1 := hk; omega)) ?_
    rintro v U' D4 hU ⟨r, rfl, hr, rfl⟩
    refine sl_perm ?_ ((List.Perm.append_left D4 (perm5 (D := D3))).trans (perm5 (D := D4)))
    repeat (first | refine run_S ?_ | refine w_box (fun _ => ?_) | refine w_al (fun _ => ?_))
    refine sk_ret D4 sym rfl (.cons (.cell 2 rfl rfl rfl) .nil) (ULe.refl _) (.cons _ (.cons _ (.cons _ (.cons _ (.cons _ (List.Sublist.append (List.Sublist.refl D4) (((List.sublist_append_right D1 M).trans (List.sublist_append_right D2 _)).trans (List.sublist_append_right D3 _)))))))) (.inl rfl) ⟨r, rfl, ?_, rfl⟩
    rw [hv] at hr
    rwa [show sg neg1 (val l1) + sg neg1 (val l2) = sg neg1 (val l1 + val l2) by cases neg1 <;> simp [sg] <;> omega]
  · rw [show ((IV.mk neg1 p1 n1 c1).neg == (IV.mk neg2 p2 n2 c2).neg) = false by cases neg1 <;> cases neg2 <;> simp at he ⊢]
    repeat (first | refine run_S ?_ | refine w_box (fun _ => ?_) | refine w_al (fun _ => ?_))
    refine sl_call rfl rfl rfl rfl rfl rfl (fun _ => below_ct (((((o1.dig (M := M)).app D2).up (ULe.refl _) (.cons _ (.cons _ (.cons _ (.cons _ (.cons _ (List.Sublist.refl _)))))))).app _) (((o2.dig (M := D1 ++ M)).up (ULe.refl _) (.cons _ (.cons _ (.cons _ (.cons _ (.cons _ (List.Sublist.refl _))))))).app _) k1 k2) ?_
    rintro v U' D3 hU ⟨rfl, rfl, rfl⟩
    repeat (first | refine run_S ?_ | refine w_box (fun _ => ?_) | refine w_al (fun _ => ?_))
    refine st_dec rfl (fun h0 => ?_) (fun h0 => ?_)
    · have hle := k1.len_le k2.bd (Nat.le_of_lt h0)
      repeat (first | refine run_S ?_ | refine w_box (fun _ => ?_) | refine w_al (fun _ => ?_))
      refine st_draw [0, 1, 2, 3, 4, 5, 6, 7, 8] sym (by kernel_rfl) ?_
      repeat (first | refine run_S ?_ | refine w_box (fun _ => ?_) | refine w_al (fun _ => ?_))
      refine sl_call rfl rfl rfl rfl rfl rfl (fun _ => rminusW_ct (((o2.dig (M := D1 ++ M)).up (ULe.refl _) (.cons _ (.cons _ (.cons _ (.cons _ (.cons _ (List.Sublist.refl _))))))).app _) (((((o1.dig (M := M)).app D2).up (ULe.refl _) (.cons _ (.cons _ (.cons _ (.cons _ (.cons _ (List.Sublist.refl _)))))))).app _) (Nat.le_trans hn2 (by decide)) (by show n1 ≤ n2; omega) (Nat.le_of_lt h0)) ?_
      rintro v U' D3 hU ⟨q, k, cc, l3, rfl, ho, hv, hk, rfl⟩
      repeat (first | refine run_S ?_ | refine w_box (fun _ => ?_) | refine w_al (fun _ => ?_))
      refine sl_call rfl rfl rfl rfl rfl rfl (fun _ => rsignedW_ct (ho.dig.app _) (by have hk2 : k = n2 := hk; omega)) ?_
      rintro v U' D4 hU ⟨r, rfl, hr, rfl⟩
      refine sl_perm ?_ ((List.Perm.append_left D4 (perm5 (D := D3))).trans (perm5 (D := D4)))
      repeat (first | refine run_S ?_ | refine w_box (fun _ => ?_) | refine w_al (fun _ => ?_))
      refine sk_ret D4 sym rfl (.cons (.cell 2 rfl rfl rfl) .nil) (ULe.refl _) (.cons _ (.cons _ (.cons _ (.cons _ (.cons _ (List.Sublist.append (List.Sublist.refl D4) (((List.sublist_append_right D1 M).trans (List.sublist_append_right D2 _)).trans (List.sublist_append_right D3 _)))))))) (.inl rfl) ⟨r, rfl, ?_, rfl⟩
      rw [hv] at hr
      rwa [show sg neg1 (val l1) + sg neg2 (val l2) = sg neg2 (val l2 - val l1) by cases neg1 <;> cases neg2 <;> simp [sg] at he ⊢ <;> omega]
    · have hle := k2.len_le k1.bd (by omega)
      repeat (first | refine run_S ?_ | refine w_box (fun _ => ?_) | refine w_al (fun _ => ?_))
      refine st_draw [0, 1, 2, 3, 4, 5, 6, 7, 8] sym (by kernel_rfl) ?_
      repeat (first | refine run_S ?_ | refine w_box (fun _ => ?_) | refine w_al (fun _ => ?_))
      refine sl_call rfl rfl rfl rfl rfl rfl (fun _ => rminusW_ct (((((o1.dig (M := M)).app D2).up (ULe.refl _) (.cons _ (.cons _ (.cons _ (.cons _ (.cons _ (List.Sublist.refl _)))))))).app _) (((o2.dig (M := D1 ++ M)).up (ULe.refl _) (.cons _ (.cons _ (.cons _ (.cons _ (.cons _ (List.Sublist.refl _))))))).app _) (Nat.le_trans hn1 (by decide)) (by show n2 ≤ n1; omega) (by omega)) ?_
      rintro v U' D3 hU ⟨q, k, cc, l3, rfl, ho, hv, hk, rfl⟩
      repeat (first | refine run_S ?_ | refine w_box (fun _ => ?_) | refine w_al (fun _ => ?_))
      refine sl_call rfl rfl rfl rfl rfl rfl (fun _ => rsignedW_ct (ho.dig.app _) (by have hk2 : k = n1 := hk; omega)) ?_
      rintro v U' D4 hU ⟨r, rfl, hr, rfl⟩
      refine sl_perm ?_ ((List.Perm.append_left D4 (perm5 (D := D3))).trans (perm5 (D := D4)))
      repeat (first | refine run_S ?_ | refine w_box (fun _ => ?_) | refine w_al (fun _ => ?_))
      refine sk_ret D4 sym rfl (.cons (.cell 2 rfl rfl rfl) .nil) (ULe.refl _) (.cons _ (.cons _ (.cons _ (.cons _ (.cons _ (List.Sublist.append (List.Sublist.refl D4) (((List.sublist_append_right D1 M).trans (List.sublist_append_right D2 _)).trans (List.sublist_append_right D3 _)))))))) (.inl rfl) ⟨r, rfl, ?_, rfl⟩
      rw [hv] at hr
      rwa [show sg neg1 (val l1) + sg neg2 (val l2) = sg neg1 (val l1 - val l2) by cases neg1 <;> cases neg2 <;> simp [sg] at he ⊢ <;> omega]

theorem rSubW_ct {x y : IV} {z u : Int} (hx : x.rep U M z) (hn : x.n ≤ 35184372088824) (hy : y.rep U M u) (hn' : y.n ≤ 35184372088824) :
    Ct Try.prog 25 [x.v, y.v] G U M fun v U' D => ∃ r : IV, v = r.v ∧ r.own D (z - u) ∧ U = U' := by
  have hUc := ULe.refl U
  refine ct_of_st Try.func25 rfl rfl rfl rfl ?_
  repeat (first | refine run_S ?_ | refine w_box (fun _ => ?_) | refine w_al (fun _ => ?_))
  refine st_draw [0, 1, 2, 3, 4] sym (by kernel_rfl) ?_
  repeat (first | refine run_S ?_ | refine w_box (fun _ => ?_) | refine w_al (fun _ => ?_))
  refine sl_call rfl rfl rfl rfl rfl rfl (fun _ => rNegW_ct (hy.up hUc sb) (by omega)) ?_
  rintro v U' Dh1 hU ⟨xh1, rfl, h1, rfl⟩
  refine sl_perm ?_ (perm3 (D := Dh1))
  repeat (first | refine run_S ?_ | refine w_box (fun _ => ?_) | refine w_al (fun _ => ?_))
  refine sl_call rfl rfl rfl rfl rfl rfl (fun _ => rAddW_ct (hx.up hUc sb) hn (h1.at sb).rep (h1.le (hy.sz (Nat.le_refl _)).neg hn')) ?_
  rintro v U' Dh2 hU ⟨xh2, rfl, h2, rfl⟩
  refine sl_perm ?_ (perm3 (D := Dh2))
  repeat (first | refine run_S ?_ | refine w_box (fun _ => ?_) | refine w_al (fun _ => ?_))
  exact sk_ret Dh2 sym rfl (.cons (.cell 0 rfl rfl rfl) .nil) hUc sb (.inl rfl) ⟨xh2, rfl, by rwa [Int.sub_eq_add_neg], rfl⟩

end Go.Proofs.Ytlnmhjkagnfnaaa

/- Walks of the reference for digits up to the reach of a claim: shifts, division of digits. -/
namespace Go.Proofs.Ytlnmhjkagnfnaaa
open Go.Hp
variable {G : World} {U : UH} {M : MH}

theorem rshiftedW_ct {p : Option Addr} {n c s : Nat} {a : List Nat} (ha : Dig U M p n c a) (hn : n + s / 32 + 2 ≤ 35184372088832) :
    Ct Try.prog 79 [.slice p n c, .int .i64 (s : Int)] G U M fun v U' D => ∃ q k cc l, v = .slice q k cc ∧ Own D q k cc l ∧ Cn l ∧ val l = val a * 2 ^ s ∧ U = U' := by
  have hla := ha.len
  have hcap := ha.cap; have hcm := ha.capm
  obtain ⟨Q, e, hQ, he, hse⟩ : ∃ Q e, s / 32 = Q ∧ s % 32 = e ∧ s = 32 * Q + e := ⟨_, _, rfl, rfl, by omega⟩
  have he32 : e < 32 := by omega
  have e1 : IntKind.i64.wrap ((s : Int).tdiv 32) = ((Q : Nat) : Int) := by
    rw [Int.tdiv_eq_ediv_of_nonneg (by omega), wrap_in (by omega) (by simp only [kmax]; omega)]; omega
  have e2 : IntKind.u64.wrap ((s : Int).tmod 32) = ((e : Nat) : Int) := by
    rw [Int.tmod_eq_emod_of_nonneg (by omega), wrap_in (by omega) (by simp only [kmax]; omega)]; omega
  obtain ⟨w, w', hw, hww, hw0, hw0', hw31⟩ := pow_facts he32
  refine ct_of_st Try.func79 rfl rfl rfl rfl ?_
  repeat (first | refine run_S ?_ | refine w_box (fun _ => ?_) | refine w_al (fun _ => ?_))
  refine sl_make (m := Q) (n := Q) sym rfl rfl rfl rfl rfl e1 e1 rfl rfl (Nat.le_refl _) (by omega) (by omega) rfl rfl rfl rfl (fun bo => ?_)
  rw [dg_rep, e1]
  repeat (first | refine run_S ?_ | refine w_box (fun _ => ?_) | refine w_al (fun _ => ?_))
  have hrow : Own [(bo, .arr ((List.replicate Q 0).map dg), TU32)] (some ⟨bo, 0, none⟩) Q Q (List.replicate Q 0) := by
    have := Own.row (b := bo) (n := Q) (c := Q) (r := List.replicate Q 0) (Nat.le_refl Q) (by simp) (by omega) (bd_rep _)
    rwa [take_all (by simp)] at this
  refine st_loop (fun m E U' M' => ∃ (i la : Nat) (r : List Nat) (q : Option Addr) (cc : Nat) (D X : MH), i ≤ n ∧ la < w ∧ Own D q (Q + i) cc r ∧ val r + 4294967296 ^ Q * 4294967296 ^ i * la = 4294967296 ^ Q * val (a.take i) * w ∧
      E = [(7, .int .i64 (i : Int)), (5, .slice q ((Q + i : Nat)) cc), (6, .int .u64 (la : Int)), (0, .slice p n c), (1, .int .i64 (s : Int))] ∧ U = U' ∧ M' = D ++ X ∧ M.Sublist X ∧ m = n - i) (n0 := n)
    (E0 := [(7, .int .i64 ((0 : Nat) : Int)), (5, .slice (some ⟨bo, 0, none⟩) Q Q), (6, .int .u64 ((0 : Nat) : Int)), (0, .slice p n c), (1, .int .i64 (s : Int))]) ⟨rfl, rfl, rfl, rfl, rfl, trivial⟩
    ⟨0, 0, _, _, _, _, M, by omega, hw0, hrow, by rw [val_replicate]; simp [val], rfl, rfl, rfl, List.Sublist.refl _, rfl⟩ ?_
  rintro m E U' M' ⟨i, la, r, q, cc, D, X, hi, hla', ho, hv, rfl, rfl, rfl, hX, rfl⟩
  try refine run_s ?_
  refine st_dec rfl (fun h0 => ?_) (fun h0 => ?_)
  · obtain ⟨x, hx, hbx, hpx, hcx⟩ := (ha.up (U' := U) (M' := D ++ X) (ULe.refl _) (hX.trans (List.sublist_append_right ..))).get (k := i) (by omega)
    obtain ⟨Y, hY⟩ : ∃ Y, x * 2 ^ e = Y := ⟨_, rfl⟩
    have hYb : Y ≤ 4294967295 * 2147483648 := by
      rw [← hY, ← hw]; exact Nat.mul_le_mul (by omega) hw31
    try refine run_s ?_
    refine sl_y (yl_index1 sym rfl rfl rfl rfl rfl rfl (by omega) hpx) rfl rfl rfl rfl ?_; refine sl_y (yl_loadD sym rfl rfl rfl rfl hcx) rfl rfl rfl rfl ?_
    try refine run_s ?_
    rw [e2]
    refine sl_y (yl_shlN rfl rfl rfl rfl rfl (by omega) hY (by omega)) rfl rfl rfl rfl ?_
    try refine run_s ?_
    have e3 : ((Y : Int) + (la : Int)) % 4294967296 = (((Y + la) % 4294967296 : Nat) : Int) := by omega
    rw [e3]
    have hd32 : (Y + la) % 4294967296 < 4294967296 := Nat.mod_lt _ (by decide)
    have hde := Nat.mod_add_div (Y + la) 4294967296
    have hlw : (Y + la) / 4294967296 < w := by
      refine Nat.div_lt_of_lt_mul ?_
      have h1 : (x + 1) * w ≤ 4294967296 * w := Nat.mul_le_mul_right _ hbx
      rw [Nat.add_mul, Nat.one_mul] at h1
      rw [hw] at h1 hla' ⊢
      omega
    generalize (Y + la) % 4294967296 = d at *
    refine sl_bslice (vs := [dg d]) sym rfl rfl rfl rfl rfl rfl (dg_size [d]) rfl rfl rfl rfl rfl rfl (fun b2 => ?_)
    refine sl_perm ?_ (perm1 (D := D)).symm
    have hq2 : Dig U (D ++ (b2, .arr [dg d], TU32) :: X) (some ⟨b2, 0, none⟩) 1 1 [d] :=
      ((Own.row (b := b2) (r := [d]) (Nat.le_refl 1) rfl (by omega) (by intro y hy; simp at hy; omega)).dig (M := X)).app D
    refine sl_appendD (D := D) (X := (b2, .arr [dg d], TU32) :: X) (m := 1) sym rfl rfl rfl rfl rfl ho rfl hq2 (by omega) rfl rfl rfl rfl (fun q2 cc2 D2 ho2 => ?_)
    try refine run_s ?_
    have e4 : ((Y : Int) + (la : Int)) / 2 ^ 32 = (((Y + la) / 4294967296 : Nat) : Int) := by omega
    rw [e4]
    refine sk_again (E' := [(7, .int .i64 ((i : Int) + 1)), (5, .slice q2 (Q + i + 1) cc2), (6, .int .u64 (((Y + la) / 4294967296 : Nat) : Int)), (0, .slice p n c), (1, .int .i64 (s : Int))]) (m := n - (i + 1)) ⟨rfl, rfl, rfl, rfl, rfl, trivial⟩ (by omega)
      ⟨i + 1, (Y + la) / 4294967296, r ++ [d], q2, cc2, D2, (b2, .arr [dg d], TU32) :: X, by omega, hlw, ho2, ?_, rfl, rfl, rfl, hX.cons _, rfl⟩
    rw [val_snoc, ho.len.1, val_take_succ hx, Nat.pow_add, Nat.pow_succ]
    rw [← hY, ← hw] at hde
    rw [← hY, ← hw]
    exact shr_arith _ _ _ _ _ _ _ _ _ hv hde
  · have hi' : i = n := by omega
    subst hi'
    repeat (first | refine run_S ?_ | refine w_box (fun _ => ?_) | refine w_al (fun _ => ?_))
    have e3 : (la : Int) % 4294967296 = (la : Int) := by omega
    try rw [e3]
    refine sl_bslice (vs := [dg la]) sym rfl rfl rfl rfl rfl rfl (dg_size [la]) rfl rfl rfl rfl rfl rfl (fun b2 => ?_)
    refine sl_perm ?_ (perm1 (D := D)).symm
    have hq2 : Dig U (D ++ (b2, .arr [dg la], TU32) :: X) (some ⟨b2, 0, none⟩) 1 1 [la] :=
      ((Own.row (b := b2) (r := [la]) (Nat.le_refl 1) rfl (by omega) (by intro y hy; simp at hy; omega)).dig (M := X)).app D
    refine sl_appendD (D := D) (X := (b2, .arr [dg la], TU32) :: X) (m := 1) sym rfl rfl rfl rfl rfl ho rfl hq2 (by omega) rfl rfl rfl rfl (fun q2 cc2 D2 ho2 => ?_)
    repeat (first | refine run_S ?_ | refine w_box (fun _ => ?_) | refine w_al (fun _ => ?_))
    refine sl_call rfl rfl rfl rfl rfl rfl (fun _ => trimW_ct ((ho2.dig (M := (b2, .arr [dg la], TU32) :: X)).app _) (by omega)) ?_
    rintro v U' D3 hU ⟨q3, k3, cc3, rfl, o3, hk3, rfl⟩
    repeat (first | refine run_S ?_ | refine w_box (fun _ => ?_) | refine w_al (fun _ => ?_))
    have hb2 := (ho2.dig (U := U) (M := [])).bd
    refine sk_ret D3 sym rfl (.cons (.tmp rfl) .nil) (ULe.refl _) (List.Sublist.append (List.Sublist.refl D3) (sub_r (.cons _ hX))) (.inl rfl) ⟨q3, k3, cc3, _, rfl, o3, cn_tl hb2, ?_, rfl⟩
    rw [val_tl, val_snoc, ho.len.1, Nat.pow_add, hv, take_all (by omega), hse, Nat.pow_add, Nat.pow_mul, ← hw]
    show 4294967296 ^ Q * val a * w = val a * (4294967296 ^ Q * w)
    rw [Nat.mul_comm (4294967296 ^ Q) (val a), Nat.mul_assoc]

theorem blen_low {l : List Nat} (h : Cn l) (h0 : 0 < l.length) : 32 * (l.length - 1) + 1 ≤ blen (val l) := by
  rcases snoc_cases l with rfl | ⟨r, d, rfl⟩
  · simp at h0
  · rw [blen_val (r := r) (d := d) (fun x hx => h.bd x (List.mem_append_left _ hx)) h.last, List.length_append]
    have := blen_pos (n := d) (by have := h.last; omega)
    simp only [List.length_cons, List.length_nil]
    omega

theorem dividedW_ct {p p' : Option Addr} {n c n' c' : Nat} {a b : List Nat} (ha : Dig U M p n c a) (hb : Dig U M p' n' c' b) (ca : Cn a) (cb : Cn b) (hb0 : 0 < n') (hn : n ≤ 35184372088800) (hn' : n' ≤ 35184372088800) :
    Ct Try.prog 55 [.slice p n c, .slice p' n' c'] G U M fun v U' D => ∃ q k cc lq q2 k2 cc2 lr Dq Dr, v = .tuple #[.slice q k cc, .slice q2 k2 cc2] ∧ D = Dr ++ Dq ∧ Own Dq q k cc lq ∧ OwnOr Dr q2 k2 cc2 lr p n c a ∧
      val lq = val a / val b ∧ val lr = val a % val b ∧ k ≤ n + 2 ∧ k2 ≤ n + 2 ∧ U = U' := by
  have hla := ha.len; have hlb := hb.len
  have hvb : val b ≠ 0 := fun h => by have := cb.zero.1 h; subst this; simp at hlb; omega
  refine ct_of_st Try.func55 rfl rfl rfl rfl ?_
  refine st_seq ?_
  try refine run_o ?_
  refine st_seq_cut (fun E U' M' => E = [(0, .slice p n c), (1, .slice p' n' c')] ∧ U = U' ∧ M = M') ?_ ?_
  · try refine run_s ?_
    refine sl_gdec rfl rfl (fun h0 => ?_) (fun h0 => ?_)
    · try refine run_s ?_
      refine st_dec rfl (fun h1 => ?_) (fun h1 => ?_)
      · have hA : val a < 18446744073709551616 := by
          have h1 := val_lt ca.bd
          have h2 : 4294967296 ^ a.length ≤ 4294967296 ^ 2 := Nat.pow_le_pow_right (by decide) (by omega)
          omega
        repeat (first | refine run_S ?_ | refine w_box (fun _ => ?_) | refine w_al (fun _ => ?_))
        refine sl_call rfl rfl rfl rfl rfl rfl (fun _ => rword_ct (ha.app _) (by omega)) ?_
        rintro v U' D hU ⟨rfl, rfl, rfl⟩
        repeat (first | refine run_S ?_ | refine w_box (fun _ => ?_) | refine w_al (fun _ => ?_))
        refine sl_call rfl rfl rfl rfl rfl rfl (fun _ => rword_ct (hb.app _) (by omega)) ?_
        rintro v U' D hU ⟨rfl, rfl, rfl⟩
        repeat (first | refine run_S ?_ | refine w_box (fun _ => ?_) | refine w_al (fun _ => ?_))
        refine sl_y (yl_quoN (k := .u64) (m := val a) (n := val b) rfl rfl rfl rfl rfl (by simp only [kmax]; omega) (by omega) rfl) rfl rfl rfl rfl ?_
        repeat (first | refine run_S ?_ | refine w_box (fun _ => ?_) | refine w_al (fun _ => ?_))
        have hq : val a / val b < 18446744073709551616 := Nat.lt_of_le_of_lt (Nat.div_le_self ..) hA
        have hr : val a % val b < 18446744073709551616 := Nat.lt_of_le_of_lt (Nat.mod_le ..) hA
        refine sl_call rfl rfl rfl rfl rfl rfl (fun _ => rsplit_ct hq) ?_
        rintro v U' D1 hU ⟨q1, k1, cc1, l1, rfl, o1, c1, hv1, rfl⟩
        repeat (first | refine run_S ?_ | refine w_box (fun _ => ?_) | refine w_al (fun _ => ?_))
        refine sl_call rfl rfl rfl rfl rfl rfl (fun _ => rword_ct (ha.up (ULe.refl _) sb) (by omega)) ?_
        rintro v U' D hU ⟨rfl, rfl, rfl⟩
        repeat (first | refine run_S ?_ | refine w_box (fun _ => ?_) | refine w_al (fun _ => ?_))
        refine sl_call rfl rfl rfl rfl rfl rfl (fun _ => rword_ct (hb.up (ULe.refl _) sb) (by omega)) ?_
        rintro v U' D hU ⟨rfl, rfl, rfl⟩
        repeat (first | refine run_S ?_ | refine w_box (fun _ => ?_) | refine w_al (fun _ => ?_))
        refine sl_y (yl_remN (k := .u64) (m := val a) (n := val b) rfl rfl rfl rfl rfl (by simp only [kmax]; omega) (by omega) rfl) rfl rfl rfl rfl ?_
        repeat (first | refine run_S ?_ | refine w_box (fun _ => ?_) | refine w_al (fun _ => ?_))
        refine sl_call rfl rfl rfl rfl rfl rfl (fun _ => rsplit_ct hr) ?_
        rintro v U' D2 hU ⟨q2, k2, cc2, l2, rfl, o2, c2, hv2, rfl⟩
        repeat (first | refine run_S ?_ | refine w_box (fun _ => ?_) | refine w_al (fun _ => ?_))
        refine sk_ret (D2 ++ D1) sym rfl (.cons (.tmp rfl) (.cons (.tmp rfl) .nil)) (ULe.refl _) (by rw [List.append_assoc]; exact List.Sublist.refl _) (.inl rfl) ⟨q1, k1, cc1, l1, q2, k2, cc2, l2, D1, D2, rfl, rfl, o1, .inl o2, hv1, hv2, ?_, ?_, rfl⟩
        · have := c1.len_le ca.bd (by rw [hv1]; exact Nat.div_le_self ..)
          have := o1.len; omega
        · have := c2.len_le ca.bd (by rw [hv2]; exact Nat.mod_le ..)
          have := o2.len; omega
      · repeat (first | refine run_S ?_ | refine w_box (fun _ => ?_) | refine w_al (fun _ => ?_))
        exact sk_cut (E' := [(0, .slice p n c), (1, .slice p' n' c')]) ⟨rfl, rfl, trivial⟩ ⟨rfl, rfl, rfl⟩
    · repeat (first | refine run_S ?_ | refine w_box (fun _ => ?_) | refine w_al (fun _ => ?_))
      exact sk_cut (E' := [(0, .slice p n c), (1, .slice p' n' c')]) ⟨rfl, rfl, trivial⟩ ⟨rfl, rfl, rfl⟩
  rintro E U' M' ⟨rfl, rfl, rfl⟩
  have hBa : blen ((val a : Int)).natAbs ≤ 32 * n := by rw [Int.natAbs_natCast, ← hla]; exact blen_val_le ca.bd
  have hBb : blen ((val b : Int)).natAbs ≤ 32 * n' := by rw [Int.natAbs_natCast, ← hlb]; exact blen_val_le cb.bd
  repeat (first | refine run_S ?_ | refine w_box (fun _ => ?_) | refine w_al (fun _ => ?_))
  refine sl_call rfl rfl rfl rfl rfl rfl (fun _ => rBitsW_ct (x := ⟨false, p, n, c⟩) (z := (val a : Int)) ⟨a, ha.app _, rfl⟩ (Nat.le_trans hn (by decide))) ?_
  rintro v U' D hU ⟨rfl, rfl, rfl⟩
  repeat (first | refine run_S ?_ | refine w_box (fun _ => ?_) | refine w_al (fun _ => ?_))
  refine sl_call rfl rfl rfl rfl rfl rfl (fun _ => rBitsW_ct (x := ⟨false, p', n', c'⟩) (z := (val b : Int)) ⟨b, hb.app _, rfl⟩ (Nat.le_trans hn' (by decide))) ?_
  rintro v U' D hU ⟨rfl, rfl, rfl⟩
  repeat (first | refine run_S ?_ | refine w_box (fun _ => ?_) | refine w_al (fun _ => ?_))
  refine st_dec rfl (fun h0 => ?_) (fun h0 => ?_)
  · have hlt : val a < val b := bits_less (by rw [Int.natAbs_natCast, Int.natAbs_natCast] at h0; omega)
    repeat (first | refine run_S ?_ | refine w_box (fun _ => ?_) | refine w_al (fun _ => ?_))
    exact sk_ret [] sym rfl (.cons (.tmp rfl) (.cons (.tmp rfl) .nil)) (ULe.refl _) sb (.inl rfl)
      ⟨none, 0, 0, [], p, n, c, a, [], [], rfl, rfl, Own.nil, .inr ⟨rfl, rfl, rfl, rfl, rfl⟩, (Nat.div_eq_of_lt hlt).symm, (Nat.mod_eq_of_lt hlt).symm, by omega, by omega, rfl⟩
  obtain ⟨S, hS⟩ : ∃ S : Nat, (blen ((val a : Int)).natAbs : Int) - (blen ((val b : Int)).natAbs : Int) = (S : Int) := ⟨blen ((val a : Int)).natAbs - blen ((val b : Int)).natAbs, by omega⟩
  have hlow : 32 * (n' - 1) + 1 ≤ blen (val b) := by rw [← hlb]; exact blen_low cb (by omega)
  have hS32 : S ≤ 32 * n := by omega
  have hSb : blen (val a) = blen (val b) + S := by rw [Int.natAbs_natCast, Int.natAbs_natCast] at hS; omega
  have hSn : S / 32 + n' ≤ n := by have h9 := blen_val_le ca.bd; rw [hla] at h9; omega
  rw [hS]
  have e1 : IntKind.i64.wrap (IntKind.i64.wrap ((S : Int).tdiv 32) + 1) = ((S / 32 + 1 : Nat) : Int) := by
    rw [Int.tdiv_eq_ediv_of_nonneg (by omega), wrap_in (k := .i64) (n := (S : Int) / 32) (by omega) (by simp only [kmax]; omega), wrap_in (by omega) (by simp only [kmax]; omega)]; omega
  repeat (first | refine run_S ?_ | refine w_box (fun _ => ?_) | refine w_al (fun _ => ?_))
  refine sl_make (m := S / 32 + 1) (n := S / 32 + 1) sym rfl rfl rfl rfl rfl e1 e1 rfl rfl (Nat.le_refl _) (by omega) (by omega) rfl rfl rfl rfl (fun bo => ?_)
  rw [dg_rep]
  repeat (first | refine run_S ?_ | refine w_box (fun _ => ?_) | refine w_al (fun _ => ?_))
  refine st_loop (fun m E U' M' => ∃ (j : Nat) (lq : List Nat) (pr : Option Addr) (nr cr : Nat) (lr : List Nat) (Dr X : MH), j ≤ S + 1 ∧ lq.length = S / 32 + 1 ∧ Bd lq ∧ Cn lr ∧ OwnOr Dr pr nr cr lr p n c a ∧ nr ≤ n ∧ val b * val lq + val lr = val a ∧ val lr < val b * 2 ^ j ∧ 2 ^ j ∣ val lq ∧
      E = [(9, .int .i64 ((j : Int) - 1)), (6, .slice pr nr cr), (8, .slice (some ⟨bo, 0, none⟩) (S / 32 + 1) (S / 32 + 1)), (0, .slice p n c), (1, .slice p' n' c')] ∧ U = U' ∧ M' = (bo, .arr (lq.map dg), TU32) :: (Dr ++ X) ∧ M.Sublist X ∧ j = m) (n0 := S + 1)
    (E0 := [(9, .int .i64 (((S + 1 : Nat) : Int) - 1)), (6, .slice p n c), (8, .slice (some ⟨bo, 0, none⟩) (S / 32 + 1) (S / 32 + 1)), (0, .slice p n c), (1, .slice p' n' c')])
    ⟨by rw [show ((S + 1 : Nat) : Int) - 1 = (S : Int) by omega]; rfl, rfl, rfl, rfl, rfl, trivial⟩
    ⟨S + 1, List.replicate (S / 32 + 1) 0, p, n, c, a, [], M, Nat.le_refl _, by simp, bd_rep _, ca, .inr ⟨rfl, rfl, rfl, rfl, rfl⟩, Nat.le_refl _, by rw [val_replicate]; omega, bits_diff hvb hSb, by rw [val_replicate]; exact Nat.dvd_zero _, rfl, rfl, rfl, List.Sublist.refl _, rfl⟩ ?_
  rintro m E U' M' ⟨j, lq, pr, nr, cr, lr, Dr, X, hj, hlq, hbq, clr, hor, hnr, hv, hlt, hdv, rfl, rfl, rfl, hX, rfl⟩
  try refine run_s ?_
  refine st_dec rfl (fun h1 => ?_) (fun h1 => ?_)
  · obtain ⟨k, rfl⟩ : ∃ k, j = k + 1 := ⟨j - 1, by omega⟩
    rw [show ((k + 1 : Nat) : Int) - 1 = (k : Int) by omega]
    repeat (first | refine run_S ?_ | refine w_box (fun _ => ?_) | refine w_al (fun _ => ?_))
    refine sl_call rfl rfl rfl rfl rfl rfl (fun _ => rshiftedW_ct (hb.up (ULe.refl _) (sub_r (.cons _ (sub_r hX)))) (by omega)) ?_
    rintro v U' D1 hU ⟨qt, kt, ct, lt, rfl, ot, clt, hvt, rfl⟩
    refine sl_perm ?_ (perm1 (D := D1))
    have hdr : Dig U ((bo, .arr (lq.map dg), TU32) :: (D1 ++ (Dr ++ X))) pr nr cr lr := (hor.dig ha hX).up (ULe.refl _) (.cons _ (sub_r (List.Sublist.refl _)))
    have hdt : Dig U ((bo, .arr (lq.map dg), TU32) :: (D1 ++ (Dr ++ X))) qt kt ct lt := (ot.dig (M := Dr ++ X)).up (ULe.refl _) (.cons _ (List.Sublist.refl _))
    repeat (first | refine run_S ?_ | refine w_box (fun _ => ?_) | refine w_al (fun _ => ?_))
    refine sl_call rfl rfl rfl rfl rfl rfl (fun _ => below_ct (hdr.app _) (hdt.app _) clr clt) ?_
    rintro v U' D hU ⟨rfl, rfl, rfl⟩
    rw [Nat.pow_succ] at hlt hdv
    by_cases hb1 : val lr < val lt
    · rw [dec_true hb1]
      repeat (first | refine run_S ?_ | refine w_box (fun _ => ?_) | refine w_al (fun _ => ?_))
      refine sk_perm (M' := (bo, .arr (lq.map dg), TU32) :: (Dr ++ (D1 ++ X))) (List.Perm.cons _ (List.perm_append_comm_assoc ..)) ?_
      exact sk_again (E' := [(9, .int .i64 ((k : Int) - 1)), (6, .slice pr nr cr), (8, .slice (some ⟨bo, 0, none⟩) (S / 32 + 1) (S / 32 + 1)), (0, .slice p n c), (1, .slice p' n' c')]) (m := k) ⟨rfl, rfl, rfl, rfl, rfl, trivial⟩ (by omega)
        ⟨k, lq, pr, nr, cr, lr, Dr, D1 ++ X, by omega, hlq, hbq, clr, hor, hnr, hv, by rw [hvt] at hb1; exact hb1, Nat.dvd_trans (Nat.dvd_mul_right ..) hdv, rfl, rfl, rfl, sub_r hX, rfl⟩
    · rw [dec_false hb1]
      have hkl := clt.len_le clr.bd (by omega)
      have hl1 := ot.len; have hl2 := hdr.len
      repeat (first | refine run_S ?_ | refine w_box (fun _ => ?_) | refine w_al (fun _ => ?_))
      refine sl_call rfl rfl rfl rfl rfl rfl (fun _ => rminusW_ct (hdr.app _) (hdt.app _) (by omega) (by omega) (by omega)) ?_
      rintro v U' D2 hU ⟨q2, k2, cc2, l2, rfl, o2, hv2, hk2, rfl⟩
      refine sl_perm ?_ (perm1 (D := D2))
      repeat (first | refine run_S ?_ | refine w_box (fun _ => ?_) | refine w_al (fun _ => ?_))
      refine sl_call rfl rfl rfl rfl rfl rfl (fun _ => trimW_ct ((o2.dig (M := D1 ++ (Dr ++ X))).up (ULe.refl _) (sub_r (.cons _ (List.Sublist.refl _)))) (by omega)) ?_
      rintro v U' D3 hU ⟨q3, k3, cc3, rfl, o3, hk3, rfl⟩
      refine sl_perm ?_ (perm1 (D := D3))
      have hb2 := (o2.dig (U := U) (M := [])).bd
      have hl3 := tl_length_le l2
      have hl4 := o2.len
      have hK : k / 32 < lq.length := by omega
      have hg : lq[k / 32]? = some (lq[k / 32]) := List.getElem?_eq_getElem hK
      have hfree := digit_free (e := k % 32) hbq hg (by omega) (by rw [show 32 * (k / 32) + k % 32 + 1 = k + 1 by omega, Nat.pow_succ]; exact hdv)
      have hdb := hbq _ (List.mem_of_getElem? hg)
      generalize lq[k / 32] = d at *
      have i1 : IntKind.i64.wrap ((k : Int).tdiv 32) = ((k / 32 : Nat) : Int) := by
        rw [Int.tdiv_eq_ediv_of_nonneg (by omega), wrap_in (by omega) (by simp only [kmax]; omega)]; omega
      have i2 : IntKind.u64.wrap ((k : Int).tmod 32) = ((k % 32 : Nat) : Int) := by
        rw [Int.tmod_eq_emod_of_nonneg (by omega), wrap_in (by omega) (by simp only [kmax]; omega)]; omega
      repeat (first | refine run_S ?_ | refine w_box (fun _ => ?_) | refine w_al (fun _ => ?_))
      refine sl_y (yl_indexM (j := k / 32) sym rfl rfl rfl rfl rfl i1 (by omega)) rfl rfl rfl rfl ?_
      refine sl_y (yl_loadMD 0 sym rfl rfl rfl rfl rfl (j := k / 32) (by omega) hg) rfl rfl rfl rfl ?_
      repeat (first | refine run_S ?_ | refine w_box (fun _ => ?_) | refine w_al (fun _ => ?_))
      refine sl_y (yl_shl (n := k % 32) rfl rfl rfl i2 (by simp only [IntKind.bits]; omega)) rfl rfl rfl rfl ?_
      repeat (first | refine run_S ?_ | refine w_box (fun _ => ?_) | refine w_al (fun _ => ?_))
      refine sl_y (yl_indexM (j := k / 32) sym rfl rfl rfl rfl rfl i1 (by omega)) rfl rfl rfl rfl ?_
      have i3 : IntKind.u32.wrap ((d : Int) + IntKind.u32.wrap (1 * 2 ^ (k % 32))) = ((d + 2 ^ (k % 32) : Nat) : Int) := by
        obtain ⟨W, hW⟩ : ∃ W, 2 ^ (k % 32) = W := ⟨_, rfl⟩
        have h5 : (1 : Int) * 2 ^ (k % 32) = (W : Int) := by rw [← hW]; simp
        rw [hW] at hfree
        rw [h5, hW]
        rw [wrap_in (k := .u32) (n := (W : Int)) (by omega) (by simp only [kmax]; omega), wrap_in (by omega) (by simp only [kmax]; omega)]
        omega
      refine sl_storeD 0 sym rfl rfl rfl (v := d + 2 ^ (k % 32)) i3 rfl rfl rfl (j := k / 32) (by omega) hK rfl rfl rfl ?_
      repeat (first | refine run_S ?_ | refine w_box (fun _ => ?_) | refine w_al (fun _ => ?_))
      have hpw : 4294967296 ^ (k / 32) * 2 ^ (k % 32) = 2 ^ k := by
        have : (4294967296 : Nat) = 2 ^ 32 := by decide
        rw [this, ← Nat.pow_mul, ← Nat.pow_add]; congr 1; omega
      have hvs : val (lq.set (k / 32) (d + 2 ^ (k % 32))) = val lq + 2 ^ k := by rw [val_set hg, hpw]
      refine sk_perm (M' := (bo, .arr ((lq.set (k / 32) (d + 2 ^ (k % 32))).map dg), TU32) :: (D3 ++ (D2 ++ (D1 ++ (Dr ++ X))))) (List.Perm.refl _) ?_
      refine sk_again (E' := [(9, .int .i64 ((k : Int) - 1)), (6, .slice q3 k3 cc3), (8, .slice (some ⟨bo, 0, none⟩) (S / 32 + 1) (S / 32 + 1)), (0, .slice p n c), (1, .slice p' n' c')]) (m := k) ⟨rfl, rfl, rfl, rfl, rfl, trivial⟩ (by omega)
        ⟨k, lq.set (k / 32) (d + 2 ^ (k % 32)), q3, k3, cc3, tl l2, D3, D2 ++ (D1 ++ (Dr ++ X)), by omega, by rw [List.length_set]; exact hlq, bd_set hbq hfree, cn_tl hb2, .inl o3, by omega, ?_, ?_, ?_, rfl, rfl, rfl, sub_r (sub_r (sub_r hX)), rfl⟩
      · have hd1 : val b * (val lq + 2 ^ k) = val b * val lq + val lt := by rw [Nat.mul_add, hvt]
        rw [val_tl, hv2, hvs, hd1]
        generalize val b * val lq = Z at *
        omega
      · have hd2 : val b * (2 ^ k * 2) = val lt * 2 := by rw [hvt, Nat.mul_assoc]
        rw [val_tl, hv2, ← hvt]
        omega
      · rw [hvs]; exact Nat.dvd_add (Nat.dvd_trans (Nat.dvd_mul_right ..) hdv) (Nat.dvd_refl _)
  · have hj0 : j = 0 := by omega
    subst hj0
    rw [Nat.pow_zero, Nat.mul_one] at hlt
    obtain ⟨g1, g2⟩ := div_of (U := val a) (V := val b) (g := val lq) (R := val lr) (by rw [Nat.mul_comm]; exact hv) hlt
    repeat (first | refine run_S ?_ | refine w_box (fun _ => ?_) | refine w_al (fun _ => ?_))
    have ho := Own.row (b := bo) (n := S / 32 + 1) (c := S / 32 + 1) (r := lq) (Nat.le_refl _) hlq (by omega) hbq
    rw [take_all (by omega)] at ho
    refine sk_perm (M' := Dr ++ (bo, .arr (lq.map dg), TU32) :: X) (perm1 (D := Dr)).symm ?_
    exact sk_ret (Dr ++ [(bo, .arr (lq.map dg), TU32)]) sym rfl (.cons (.tmp rfl) (.cons (.tmp rfl) .nil)) (ULe.refl _) (by rw [List.append_assoc]; exact List.Sublist.append (List.Sublist.refl Dr) (List.Sublist.cons_cons _ hX)) (.inl rfl)
      ⟨_, _, _, lq, pr, nr, cr, lr, [_], Dr, rfl, rfl, ho, hor, g1.symm, g2.symm, by omega, by omega, rfl⟩

end Go.Proofs.Ytlnmhjkagnfnaaa

/- Walks of the reference for digits up to the reach of a claim: division, greatest common divisors, fractions in lowest terms. -/
namespace Go.Proofs.Ytlnmhjkagnfnaaa
open Go.Hp
variable {G : World} {U : UH} {M : MH}

theorem rEuclidW_ct {x y : IV} {z u : Int} (hx : x.rep U M z) (hn : x.n ≤ 35184372088800) (hy : y.rep U M u) (hn' : y.n ≤ 35184372088800) (hu : u ≠ 0) :
    Ct Try.prog 27 [x.v, y.v] G U M fun v U' D => ∃ (q r : IV) (Dq Dr : MH), v = .tuple #[q.v, r.v] ∧ D = Dr ++ Dq ∧ q.own Dq (z / u) ∧ r.own Dr (z % u) ∧ U = U' := by
  have hUc := ULe.refl U
  have sz := hx.sz (Nat.le_refl _)
  have su := hy.sz (Nat.le_refl _)
  refine ct_of_st Try.func27 rfl rfl rfl rfl ?_
  repeat (first | refine run_S ?_ | refine w_box (fun _ => ?_) | refine w_al (fun _ => ?_))
  rename_i b2 b3 b4 b5
  refine st_draw [0, 2, 1, 3, 4, 5, 6, 7] sym (by kernel_rfl) ?_
  repeat (first | refine run_S ?_ | refine w_box (fun _ => ?_) | refine w_al (fun _ => ?_))
  refine sl_call rfl rfl rfl rfl rfl rfl (fun _ => NormW_ct (hx.up hUc sb) (Nat.le_trans hn (by decide))) ?_
  rintro v U' D1 hU ⟨x1, rfl, h1, rfl⟩
  refine sl_perm ?_ (perm4 (D := D1))
  repeat (first | refine run_S ?_ | refine w_box (fun _ => ?_) | refine w_al (fun _ => ?_))
  refine sl_call rfl rfl rfl rfl rfl rfl (fun _ => NormW_ct (hy.up hUc sb) (Nat.le_trans hn' (by decide))) ?_
  rintro v U' D2 hU ⟨x2, rfl, h2, rfl⟩
  refine sl_perm ?_ (perm4 (D := D2))
  repeat (first | refine run_S ?_ | refine w_box (fun _ => ?_) | refine w_al (fun _ => ?_))
  rename_i b6 b7
  have hn1 := h1.le sz hn
  have hn2 := h2.le su hn'
  obtain ⟨l1, o1, c1, v1, s1⟩ := h1.form
  obtain ⟨l2, o2, c2, v2, s2⟩ := h2.form
  have hp2 : 0 < x2.n := by
    have := h2.len0
    omega
  have d1 : Dig U (D1 ++ M) x1.p x1.n x1.c l1 := o1.dig
  refine sl_call rfl rfl rfl rfl rfl rfl (fun _ => dividedW_ct (d1.up hUc sb) ((o2.dig (M := [])).up hUc (by rw [List.append_nil]; exact sb)) c1 c2 hp2 hn1 hn2) ?_
  rintro v U' D3 hU ⟨q, k, cc, lq, q2, k2, cc2, lr, Dq, Dr, rfl, rfl, oq, oor, hq, hr, hk, hk2, rfl⟩
  rw [List.append_assoc]
  refine sl_perm ?_ ((List.Perm.append_left Dr (perm6 (D := Dq))).trans (perm6 (D := Dr)))
  repeat (first | refine run_S ?_ | refine w_box (fun _ => ?_) | refine w_al (fun _ => ?_))
  have hub := val_lt c2.bd
  have hl2 : 0 < val l2 := by omega
  have hlr : val lr < val l2 := by rw [hr]; exact Nat.mod_lt _ hl2
  have hdm : val l1 = val lr + val l2 * val lq := by rw [hr, hq]; exact (Nat.mod_add_div ..).symm
  refine sl_call rfl rfl rfl rfl rfl rfl (fun _ => rsignedW_ct (neg := false) ((oor.dig (X := Dq ++ (D2 ++ (D1 ++ M))) d1 sb).up hUc sb) (by omega)) ?_
  rintro v U' Dh3 hU ⟨xh3, rfl, h3, rfl⟩
  refine sl_perm ?_ (perm6 (D := Dh3))
  repeat (first | refine run_S ?_ | refine w_box (fun _ => ?_) | refine w_al (fun _ => ?_))
  rename_i b10
  rw [show sg false (val lr) = (val lr : Int) by simp [sg]] at h3
  have hz3 := h3.len0
  cases hneg : x1.neg
  · have h00 : x1.neg = true → val lr = 0 := fun h => by rw [hneg] at h; cases h
    repeat (first | refine run_S ?_ | refine w_box (fun _ => ?_) | refine w_al (fun _ => ?_))
    obtain ⟨g1, g2⟩ := div_plain (neg := x2.neg) (neg1 := x1.neg) hdm hlr h00
    rw [← s1, ← s2] at g1 g2
    refine st_draw2 7 8 [0, 1, 2, 3, 4, 5, 7, 6, 8, 9] [0, 1, 2, 3, 4, 5, 6, 8, 7, 9] sym (by kernel_rfl) (by kernel_rfl) (by kernel_rfl) ?_ ?_
    all_goals
      repeat (first | refine run_S ?_ | refine w_box (fun _ => ?_) | refine w_al (fun _ => ?_))
      refine sl_call rfl rfl rfl rfl rfl rfl (fun _ => rsignedW_ct ((oq.dig (M := D2 ++ (D1 ++ M))).up hUc sb) (by omega)) ?_
      rintro v U' Dh4 hU ⟨xh4, rfl, h4, rfl⟩
      refine sl_perm ?_ (perm7 (D := Dh4))
      repeat (first | refine run_S ?_ | refine w_box (fun _ => ?_) | refine w_al (fun _ => ?_))
      refine sk_perm swp7 ?_
      exact sk_ret (Dh3 ++ Dh4) sym rfl (.cons (.cell 4 rfl rfl rfl) (.cons (.cell 3 rfl rfl rfl) .nil)) hUc (by rw [List.append_assoc]; exact sb) (.inl rfl) ⟨xh4, xh3, Dh4, Dh3, rfl, rfl, by rw [g1]; exact h4, by rw [g2]; exact h3, rfl⟩
  · repeat (first | refine run_S ?_ | refine w_box (fun _ => ?_) | refine w_al (fun _ => ?_))
    refine st_dec rfl (fun h0 => ?_) (fun h0 => ?_)
    · have hlr0 : 0 < val lr := by omega
      obtain ⟨g1, g2⟩ := div_up (neg := x2.neg) hdm hlr hlr0
      have s1' := s1
      rw [hneg] at s1'
      rw [← s1', ← s2] at g1 g2
      have sr : Sz (val lr : Int) y.n := by
        unfold Sz at su ⊢
        rw [Int.natAbs_natCast]
        omega
      repeat (first | refine run_S ?_ | refine w_box (fun _ => ?_) | refine w_al (fun _ => ?_))
      refine st_draw [0, 1, 2, 3, 7, 9, 4, 5, 6, 8, 10, 11, 12] sym (by kernel_rfl) ?_
      repeat (first | refine run_S ?_ | refine w_box (fun _ => ?_) | refine w_al (fun _ => ?_))
      refine sl_bslice (vs := [dg 1]) sym rfl rfl rfl rfl rfl rfl (dg_size [1]) rfl rfl rfl rfl rfl rfl (fun b11 => ?_)
      have hd1 : Dig U [(b11, .arr [dg 1], TU32)] (some ⟨b11, 0, none⟩) 1 1 [1] := (Own.row (b := b11) (r := [1]) (Nat.le_refl 1) rfl (by omega) (by intro y hy; simp at hy; omega)).dig (M := [])
      repeat (first | refine run_S ?_ | refine w_box (fun _ => ?_) | refine w_al (fun _ => ?_))
      refine sl_call rfl rfl rfl rfl rfl rfl (fun _ => rplusW_ct ((oq.dig (M := D2 ++ (D1 ++ M))).up hUc sb) (hd1.up hUc sb) (by omega) (by decide)) ?_
      rintro v U' D5 hU ⟨q5, k5, cc5, l5, rfl, o5, hv5, hk5, rfl⟩
      refine sl_perm ?_ (perm8 (D := D5))
      repeat (first | refine run_S ?_ | refine w_box (fun _ => ?_) | refine w_al (fun _ => ?_))
      refine sl_call rfl rfl rfl rfl rfl rfl (fun _ => rsignedW_ct ((o5.dig (M := [])).up hUc (by rw [List.append_nil]; exact sb)) (by omega)) ?_
      rintro v U' Dh6 hU ⟨xh6, rfl, h6, rfl⟩
      refine sl_perm ?_ (perm8 (D := Dh6))
      repeat (first | refine run_S ?_ | refine w_box (fun _ => ?_) | refine w_al (fun _ => ?_))
      refine sl_call rfl rfl rfl rfl rfl rfl (fun _ => rAbsW_ct (h2.at sb).rep (Nat.le_trans hn2 (by decide))) ?_
      rintro v U' Dh7 hU ⟨xh7, rfl, h7, rfl⟩
      refine sl_perm ?_ (perm8 (D := Dh7))
      repeat (first | refine run_S ?_ | refine w_box (fun _ => ?_) | refine w_al (fun _ => ?_))
      refine sl_call rfl rfl rfl rfl rfl rfl (fun _ => rSubW_ct (h7.at sb).rep (h7.le su.abs (Nat.le_trans hn' (by decide))) (h3.at sb).rep (h3.le sr (Nat.le_trans hn' (by decide)))) ?_
      rintro v U' Dh8 hU ⟨xh8, rfl, h8, rfl⟩
      refine sl_perm ?_ (perm8 (D := Dh8))
      repeat (first | refine run_S ?_ | refine w_box (fun _ => ?_) | refine w_al (fun _ => ?_))
      refine sk_ret (Dh8 ++ Dh6) sym rfl (.cons (.cell 5 rfl rfl rfl) (.cons (.cell 4 rfl rfl rfl) .nil)) hUc (by rw [List.append_assoc]; exact sb) (.inl rfl) ⟨xh6, xh8, Dh6, Dh8, rfl, rfl, ?_, ?_, rfl⟩
      · rw [g1]
        rw [hv5, val_single] at h6
        rwa [show (true != x2.neg) = !x2.neg by cases x2.neg <;> rfl]
      · rw [g2]
        rwa [show (u.natAbs : Int) - (val lr : Int) = ((val l2 - val lr : Nat) : Int) by omega] at h8
    · have h00 : x1.neg = true → val lr = 0 := fun _ => by omega
      repeat (first | refine run_S ?_ | refine w_box (fun _ => ?_) | refine w_al (fun _ => ?_))
      obtain ⟨g1, g2⟩ := div_plain (neg := x2.neg) (neg1 := x1.neg) hdm hlr h00
      rw [← s1, ← s2] at g1 g2
      refine st_draw2 7 8 [0, 1, 2, 3, 4, 5, 7, 6, 8, 9] [0, 1, 2, 3, 4, 5, 6, 8, 7, 9] sym (by kernel_rfl) (by kernel_rfl) (by kernel_rfl) ?_ ?_
      all_goals
        repeat (first | refine run_S ?_ | refine w_box (fun _ => ?_) | refine w_al (fun _ => ?_))
        refine sl_call rfl rfl rfl rfl rfl rfl (fun _ => rsignedW_ct ((oq.dig (M := D2 ++ (D1 ++ M))).up hUc sb) (by omega)) ?_
        rintro v U' Dh4 hU ⟨xh4, rfl, h4, rfl⟩
        refine sl_perm ?_ (perm7 (D := Dh4))
        repeat (first | refine run_S ?_ | refine w_box (fun _ => ?_) | refine w_al (fun _ => ?_))
        refine sk_perm swp7 ?_
        exact sk_ret (Dh3 ++ Dh4) sym rfl (.cons (.cell 4 rfl rfl rfl) (.cons (.cell 3 rfl rfl rfl) .nil)) hUc (by rw [List.append_assoc]; exact sb) (.inl rfl) ⟨xh4, xh3, Dh4, Dh3, rfl, rfl, by rw [g1]; exact h4, by rw [g2]; exact h3, rfl⟩

theorem rDividedW_ct {x y : IV} {z u : Int} (hx : x.rep U M z) (hn : x.n ≤ 35184372088800) (hy : y.rep U M u) (hn' : y.n ≤ 35184372088800) (hu : u ≠ 0) :
    Ct Try.prog 15 [x.v, y.v] G U M fun v U' D => ∃ r : IV, v = r.v ∧ r.own D (z / u) ∧ U = U' := by
  have hUc := ULe.refl U
  refine ct_of_st Try.func15 rfl rfl rfl rfl ?_
  repeat (first | refine run_S ?_ | refine w_box (fun _ => ?_) | refine w_al (fun _ => ?_))
  refine sl_call rfl rfl rfl rfl rfl rfl (fun _ => rEuclidW_ct (hx.up hUc sb) hn (hy.up hUc sb) hn' hu) ?_
  rintro v U' D hU ⟨xq, xr, Dq, Dr, rfl, rfl, q, r, rfl⟩
  rw [List.append_assoc]
  refine sl_perm ?_ ((List.Perm.append_left Dr (perm3 (D := Dq))).trans (perm3 (D := Dr)))
  repeat (first | refine run_S ?_ | refine w_box (fun _ => ?_) | refine w_al (fun _ => ?_))
  exact sk_ret Dq sym rfl (.cons (.cell 2 rfl rfl rfl) .nil) hUc (.cons _ (.cons _ (.cons _ (.cons _ (.cons _ (sub_r (List.Sublist.refl _))))))) (.inl rfl) ⟨xq, rfl, q, rfl⟩

theorem rGcdW_ct {x y : IV} {z w : Int} (hx : x.rep U M z) (hn : x.n ≤ 35184372087808) (hy : y.rep U M w) (hn' : y.n ≤ 35184372087808) :
    Ct Try.prog 11 [x.v, y.v] G U M fun v U' D => ∃ r : IV, v = r.v ∧ r.own D (Int.gcd z w : Int) ∧ U = U' := by
  have hUc := ULe.refl U
  have sz := hx.sz (Nat.le_refl _)
  have sw := hy.sz (Nat.le_refl _)
  refine ct_of_st Try.func11 rfl rfl rfl rfl ?_
  repeat (first | refine run_S ?_ | refine w_box (fun _ => ?_) | refine w_al (fun _ => ?_))
  rename_i b2 b3 b4
  refine st_draw [0, 2, 1, 3, 4, 5, 6, 7] sym (by kernel_rfl) ?_
  repeat (first | refine run_S ?_ | refine w_box (fun _ => ?_) | refine w_al (fun _ => ?_))
  refine sl_call rfl rfl rfl rfl rfl rfl (fun _ => rAbsW_ct (hx.up hUc sb) (Nat.le_trans hn (by decide))) ?_
  rintro v U' Dh1 hU ⟨xh1, rfl, h1, rfl⟩
  refine sl_perm ?_ (perm3 (D := Dh1))
  repeat (first | refine run_S ?_ | refine w_box (fun _ => ?_) | refine w_al (fun _ => ?_))
  refine sl_call rfl rfl rfl rfl rfl rfl (fun _ => rAbsW_ct (hy.up hUc sb) (Nat.le_trans hn' (by decide))) ?_
  rintro v U' Dh2 hU ⟨xh2, rfl, h2, rfl⟩
  refine sl_perm ?_ (perm3 (D := Dh2))
  repeat (first | refine run_O ?_ | refine w_box (fun _ => ?_) | refine w_al (fun _ => ?_))
  rename_i b5 b6
  refine st_seq_cut (fun E U' M' => E = [(6, .pointer (some ⟨b6, 0, none⟩)), (5, .pointer (some ⟨b5, 0, none⟩)), (4, .pointer (some ⟨b4, 0, none⟩)), (3, .pointer (some ⟨b3, 0, none⟩)), (2, .pointer (some ⟨b2, 0, none⟩))] ∧ U = U' ∧ M' = (b6, .var xh2.v, 24) :: (b5, .var xh1.v, 24) :: (b4, .var (.agg #[.bool false, .slice none 0 0]), 24) :: (b3, .var y.v, 24) :: (b2, .var x.v, 24) :: (Dh2 ++ (Dh1 ++ M))) ?_ ?_
  · try refine run_s ?_
    refine sl_gdec rfl rfl (fun h3 => ?_) (fun h3 => ?_)
    · try refine run_s ?_
      refine st_dec rfl (fun h4 => ?_) (fun h4 => ?_)
      · obtain ⟨l1, hd1, -, hv1, -⟩ := h1.at (M := (b6, .var xh2.v, 24) :: (b5, .var xh1.v, 24) :: (b4, .var (.agg #[.bool false, .slice none 0 0]), 24) :: (b3, .var y.v, 24) :: (b2, .var x.v, 24) :: (Dh2 ++ (Dh1 ++ M))) (U := U) sb
        obtain ⟨l2, hd2, -, hv2, -⟩ := h2.at (M := (b6, .var xh2.v, 24) :: (b5, .var xh1.v, 24) :: (b4, .var (.agg #[.bool false, .slice none 0 0]), 24) :: (b3, .var y.v, 24) :: (b2, .var x.v, 24) :: (Dh2 ++ (Dh1 ++ M))) (U := U) sb
        have w1 := word_lt hd1 (by omega)
        have w2 := word_lt hd2 (by omega)
        rw [hv1, Int.natAbs_natCast] at w1
        rw [hv2, Int.natAbs_natCast] at w2
        try refine run_s ?_
        refine st_draw [0, 1, 3, 4, 2, 5, 6, 7] sym (by kernel_rfl) ?_
        repeat (first | refine run_S ?_ | refine w_box (fun _ => ?_) | refine w_al (fun _ => ?_))
        refine sl_call rfl rfl rfl rfl rfl rfl (fun _ => rword_ct (hd1.app _) (by omega)) ?_
        rintro v U' D hU ⟨rfl, rfl, rfl⟩
        repeat (first | refine run_S ?_ | refine w_box (fun _ => ?_) | refine w_al (fun _ => ?_))
        refine sl_call rfl rfl rfl rfl rfl rfl (fun _ => rword_ct (hd2.app _) (by omega)) ?_
        rintro v U' D hU ⟨rfl, rfl, rfl⟩
        repeat (first | refine run_S ?_ | refine w_box (fun _ => ?_) | refine w_al (fun _ => ?_))
        rw [hv1, hv2, Int.natAbs_natCast, Int.natAbs_natCast]
        try refine run_o ?_
        refine st_loop (fun m E U' M' => ∃ p q : Nat, Nat.gcd p q = Int.gcd z w ∧ p < 18446744073709551616 ∧ q < 18446744073709551616 ∧ E = (7, .int .u64 (p : Int)) :: (8, .int .u64 (q : Int)) :: [(6, .pointer (some ⟨b6, 0, none⟩)), (5, .pointer (some ⟨b5, 0, none⟩)), (4, .pointer (some ⟨b4, 0, none⟩)), (3, .pointer (some ⟨b3, 0, none⟩)), (2, .pointer (some ⟨b2, 0, none⟩))] ∧ U = U' ∧ M' = (b6, .var xh2.v, 24) :: (b5, .var xh1.v, 24) :: (b4, .var (.agg #[.bool false, .slice none 0 0]), 24) :: (b3, .var y.v, 24) :: (b2, .var x.v, 24) :: (Dh2 ++ (Dh1 ++ M)) ∧ q = m) (n0 := w.natAbs)
          (E0 := (7, .int .u64 (z.natAbs : Int)) :: (8, .int .u64 (w.natAbs : Int)) :: [(6, .pointer (some ⟨b6, 0, none⟩)), (5, .pointer (some ⟨b5, 0, none⟩)), (4, .pointer (some ⟨b4, 0, none⟩)), (3, .pointer (some ⟨b3, 0, none⟩)), (2, .pointer (some ⟨b2, 0, none⟩))]) ⟨rfl, rfl, rfl, rfl, rfl, rfl, rfl, trivial⟩ ⟨_, _, rfl, w1, w2, rfl, rfl, rfl, rfl⟩ ?_
        rintro m E U' M' ⟨p, q, e1, e2, e3, rfl, rfl, rfl, rfl⟩
        try refine run_s ?_
        refine st_dec rfl (fun h5 => ?_) (fun h5 => ?_)
        · have hlt : p % q < q := Nat.mod_lt _ (by omega)
          try refine run_s ?_
          refine st_draw [0, 1, 2, 3, 4, 5] sym (by kernel_rfl) ?_
          try refine run_s ?_
          refine sl_y (yl_remN (m := p) (n := q) rfl rfl rfl rfl rfl (by simp only [kmax]; omega) (by omega) rfl) rfl rfl rfl rfl ?_
          try refine run_s ?_
          refine sk_again (E' := (7, .int .u64 (q : Int)) :: (8, .int .u64 ((p % q : Nat) : Int)) :: [(6, .pointer (some ⟨b6, 0, none⟩)), (5, .pointer (some ⟨b5, 0, none⟩)), (4, .pointer (some ⟨b4, 0, none⟩)), (3, .pointer (some ⟨b3, 0, none⟩)), (2, .pointer (some ⟨b2, 0, none⟩))]) (m := p % q) ⟨rfl, rfl, rfl, rfl, rfl, rfl, rfl, trivial⟩ hlt ⟨q, p % q, ?_, e3, by omega, rfl, rfl, rfl, rfl⟩
          rw [← e1, Nat.gcd_comm q, ← Nat.gcd_rec, Nat.gcd_comm]
        · have hq : q = 0 := by omega
          subst hq
          rw [Nat.gcd_zero_right] at e1
          subst e1
          repeat (first | refine run_S ?_ | refine w_box (fun _ => ?_) | refine w_al (fun _ => ?_))
          refine sl_call rfl rfl rfl rfl rfl rfl (fun _ => rsplit_ct e2) ?_
          rintro v U' D hU ⟨q, k, cc, lg, rfl, ho, cg, hvg, rfl⟩
          refine sl_perm ?_ (perm5 (D := D))
          have hk : k ≤ 35184372088832 := by
            have e4 : k ≤ 2 := IV.own.len_le (x := ⟨false, q, k, cc⟩) (z := (val lg : Int)) (D := D) ⟨lg, ho, cg, by rw [Int.natAbs_natCast], (decide_eq_false (by omega)).symm⟩ (by rw [Int.natAbs_natCast]; omega)
            omega
          repeat (first | refine run_S ?_ | refine w_box (fun _ => ?_) | refine w_al (fun _ => ?_))
          refine sl_call rfl rfl rfl rfl rfl rfl (fun _ => rsignedW_ct (neg := false) ((ho.dig (U := U) (M := [])).up hUc (by rw [List.append_nil]; exact sb)) hk) ?_
          rintro v U' D2 hU ⟨xr, rfl, hr, rfl⟩
          refine sl_perm ?_ (perm5 (D := D2))
          repeat (first | refine run_S ?_ | refine w_box (fun _ => ?_) | refine w_al (fun _ => ?_))
          rw [hvg] at hr
          exact sk_ret D2 sym rfl (.cons (.cell 2 rfl rfl rfl) .nil) hUc (.cons _ (.cons _ (.cons _ (.cons _ (.cons _ (List.Sublist.append (List.Sublist.refl D2) (sub_r (sub_r (sub_r (List.Sublist.refl M)))))))))) (.inl rfl) ⟨xr, rfl, hr, rfl⟩
      · try refine run_s ?_
        exact sk_cut (E' := [(6, .pointer (some ⟨b6, 0, none⟩)), (5, .pointer (some ⟨b5, 0, none⟩)), (4, .pointer (some ⟨b4, 0, none⟩)), (3, .pointer (some ⟨b3, 0, none⟩)), (2, .pointer (some ⟨b2, 0, none⟩))]) ⟨rfl, rfl, rfl, rfl, rfl, trivial⟩ ⟨rfl, rfl, rfl⟩
    · try refine run_s ?_
      exact sk_cut (E' := [(6, .pointer (some ⟨b6, 0, none⟩)), (5, .pointer (some ⟨b5, 0, none⟩)), (4, .pointer (some ⟨b4, 0, none⟩)), (3, .pointer (some ⟨b3, 0, none⟩)), (2, .pointer (some ⟨b2, 0, none⟩))]) ⟨rfl, rfl, rfl, rfl, rfl, trivial⟩ ⟨rfl, rfl, rfl⟩
  · rintro E U' M' ⟨rfl, rfl, rfl⟩
    repeat (first | refine run_S ?_ | refine w_box (fun _ => ?_) | refine w_al (fun _ => ?_))
    refine st_loop (fun m E U' M' => ∃ (xa xb : IV) (p q : Nat) (Da Db T : MH), xa.own Da (p : Int) ∧ xb.own Db (q : Int) ∧ Nat.gcd p q = Int.gcd z w ∧ Sz (p : Int) (max x.n y.n) ∧ Sz (q : Int) (max x.n y.n) ∧ E = [(6, .pointer (some ⟨b6, 0, none⟩)), (5, .pointer (some ⟨b5, 0, none⟩)), (4, .pointer (some ⟨b4, 0, none⟩)), (3, .pointer (some ⟨b3, 0, none⟩)), (2, .pointer (some ⟨b2, 0, none⟩))] ∧ U = U' ∧ M' = (b6, .var xb.v, 24) :: (b5, .var xa.v, 24) :: (b4, .var (.agg #[.bool false, .slice none 0 0]), 24) :: (b3, .var y.v, 24) :: (b2, .var x.v, 24) :: T ∧ (Da ++ M).Sublist T ∧ (Db ++ M).Sublist T ∧ q = m) (n0 := w.natAbs)
      (E0 := [(6, .pointer (some ⟨b6, 0, none⟩)), (5, .pointer (some ⟨b5, 0, none⟩)), (4, .pointer (some ⟨b4, 0, none⟩)), (3, .pointer (some ⟨b3, 0, none⟩)), (2, .pointer (some ⟨b2, 0, none⟩))]) ⟨rfl, rfl, rfl, rfl, rfl, trivial⟩ ⟨xh1, xh2, z.natAbs, w.natAbs, Dh1, Dh2, Dh2 ++ (Dh1 ++ M), h1, h2, rfl, sz.abs.mono (by omega), sw.abs.mono (by omega), rfl, rfl, rfl, sb, sb, rfl⟩ ?_
    rintro m E U' M' ⟨xa, xb, p, q, Da, Db, T, ha, hb, hg, sa, sb', rfl, rfl, rfl, hTa, hTb, rfl⟩
    have hM : M.Sublist T := (List.sublist_append_right Da M).trans hTa
    have hTa1 : Da.Sublist T := (List.sublist_append_left Da M).trans hTa
    have hTb1 : Db.Sublist T := (List.sublist_append_left Db M).trans hTb
    try refine run_s ?_
    refine st_dec rfl (fun h5 => ?_) (fun h5 => ?_)
    · have hq : q ≠ 0 := fun e => by
        have := hb.len0.2 (by omega)
        omega
      have hlt : p % q < q := Nat.mod_lt _ (by omega)
      repeat (first | refine run_S ?_ | refine w_box (fun _ => ?_) | refine w_al (fun _ => ?_))
      refine sl_call rfl rfl rfl rfl rfl rfl (fun _ => rEuclidW_ct (ha.at (hTa1.trans sb)).rep (ha.le sa (by omega)) (hb.at (hTb1.trans sb)).rep (hb.le sb' (by omega)) (by omega)) ?_
      rintro v U' D hU ⟨xs, xt, Ds, Dt, rfl, rfl, s, t, rfl⟩
      rw [List.append_assoc]
      refine sl_perm ?_ ((List.Perm.append_left Dt (perm5 (D := Ds))).trans (perm5 (D := Dt)))
      repeat (first | refine run_S ?_ | refine w_box (fun _ => ?_) | refine w_al (fun _ => ?_))
      rw [← Int.natCast_emod] at t
      have st := sb'.mod (by omega) (p : Int)
      rw [← Int.natCast_emod] at st
      refine sk_perm (perm5 (D := [_, _])) ?_
      refine sk_again (E' := [(6, .pointer (some ⟨b6, 0, none⟩)), (5, .pointer (some ⟨b5, 0, none⟩)), (4, .pointer (some ⟨b4, 0, none⟩)), (3, .pointer (some ⟨b3, 0, none⟩)), (2, .pointer (some ⟨b2, 0, none⟩))]) (m := p % q) ⟨rfl, rfl, rfl, rfl, rfl, trivial⟩ hlt ⟨xb, xt, q, p % q, Db, Dt, _, hb, t, ?_, sb', st, rfl, rfl, rfl, hTb.trans sb, (List.Sublist.append (List.Sublist.refl Dt) (sub_r hM)).trans sb, rfl⟩
      rw [← hg, Nat.gcd_comm q, ← Nat.gcd_rec, Nat.gcd_comm]
    · have hq : q = 0 := by
        have := hb.len0.1 (by omega)
        omega
      subst hq
      rw [Nat.gcd_zero_right] at hg
      subst hg
      repeat (first | refine run_S ?_ | refine w_box (fun _ => ?_) | refine w_al (fun _ => ?_))
      exact sk_ret Da sym rfl (.cons (.cell 2 rfl rfl rfl) .nil) hUc (.cons _ (.cons _ (.cons _ (.cons _ (.cons _ hTa))))) (.inl rfl) ⟨xa, rfl, ha, rfl⟩

theorem rqOverW_ct {x y : IV} {n d : Int} (hx : x.rep U M n) (hn : x.n ≤ 35184372087808) (hy : y.rep U M d) (hn' : y.n ≤ 35184372087808) :
    Ct Try.prog 23 [x.v, y.v] G U M fun v U' D => ∃ r : QV, v = r.v ∧ r.nrm U' [] (Rat.divInt n d) ∧ D = [] := by
  have sx := (hx.sz (Nat.le_refl _)).mono hn
  have sy := (hy.sz (Nat.le_refl _)).mono hn'
  refine ct_of_st Try.func23 rfl rfl rfl rfl ?_
  repeat (first | refine run_S ?_ | refine w_box (fun _ => ?_) | refine w_al (fun _ => ?_))
  rename_i b2 b3 b4
  refine sl_call rfl rfl rfl rfl rfl rfl (fun _ => rSignW_ct (hy.up uc sb) (by omega)) ?_
  rintro v U' D hU ⟨rfl, rfl, rfl⟩
  repeat (first | refine run_S ?_ | refine w_box (fun _ => ?_) | refine w_al (fun _ => ?_))
  refine st_eq rfl (fun h1 => ?_) (fun h1 => ?_)
  · obtain rfl := Int.sign_eq_zero_iff_zero.1 h1
    repeat (first | refine run_S ?_ | refine w_box (fun _ => ?_) | refine w_al (fun _ => ?_))
    refine sl_call rfl rfl rfl rfl rfl rfl (fun _ => rqOf_ct (z := 0) (by decide) (by decide)) ?_
    rintro v Uh2 D hU ⟨xh2, rfl, h2, rfl⟩
    repeat (first | refine run_S ?_ | refine w_box (fun _ => ?_) | refine w_al (fun _ => ?_))
    rw [Rat.divInt_zero]
    exact sk_ret [] sym rfl (.cons (.cell 0 rfl rfl rfl) .nil) uc sb (.inl rfl) ⟨xh2, rfl, h2, rfl⟩
  have hd : d ≠ 0 := fun e => h1 (by rw [e]; rfl)
  have hg0 : 0 < (Int.gcd n d : Int) := by
    have := Int.gcd_pos_of_ne_zero_right n (b := d) hd
    omega
  repeat (first | refine run_S ?_ | refine w_box (fun _ => ?_) | refine w_al (fun _ => ?_))
  refine sl_call rfl rfl rfl rfl rfl rfl (fun _ => (rGcdW_ct (hx.up uc sb) (by omega) (hy.up uc sb) (by omega)).settle) ?_
  rintro v Uhg D hU ⟨rfl, _, _, ⟨xhg, rfl, hg, -⟩, -, -, hs⟩
  replace hg := hg.sett hs
  clear hs
  repeat (first | refine run_O ?_ | refine w_box (fun _ => ?_) | refine w_al (fun _ => ?_))
  rename_i b5
  have sg : Sz (Int.gcd n d : Int) 35184372087808 := sx.gcd sy
  refine st_seq_cut (fun E U' M' => ∃ (g : Int) (w : IV), w.nrm U' [] g ∧ g ≠ 0 ∧ Sz g 35184372087808 ∧ (Rat.divInt n d).num = n / g ∧ ((Rat.divInt n d).den : Int) = d / g ∧
    E = [(2, .pointer (some ⟨b2, 0, none⟩)), (3, .pointer (some ⟨b3, 0, none⟩)), (4, .pointer (some ⟨b4, 0, none⟩)), (5, .pointer (some ⟨b5, 0, none⟩))] ∧ ULe U U' ∧
    M' = (b5, .var w.v, 24) :: (b4, .var zeroQV.v, 26) :: (b3, .var y.v, 24) :: (b2, .var x.v, 24) :: M) ?_ ?_
  · try refine run_s ?_
    refine sl_call rfl rfl rfl rfl rfl rfl (fun _ => rSignW_ct (hy.up uc sb) (by omega)) ?_
    rintro v U' D hU ⟨rfl, rfl, rfl⟩
    repeat (first | refine run_S ?_ | refine w_box (fun _ => ?_) | refine w_al (fun _ => ?_))
    refine st_dec rfl (fun h2 => ?_) (fun h2 => ?_)
    · have hlt : d < 0 := by
        rcases Int.lt_trichotomy d 0 with h | h | h
        · exact h
        · exact absurd h hd
        · rw [Int.sign_eq_one_of_pos h] at h2; omega
      obtain ⟨q1, q2⟩ := over_neg (n := n) hlt
      repeat (first | refine run_S ?_ | refine w_box (fun _ => ?_) | refine w_al (fun _ => ?_))
      refine sl_call rfl rfl rfl rfl rfl rfl (fun _ => (rNegW_ct (hg.rep.up uc sb) (hg.le (sg) (by omega))).settle) ?_
      rintro v Uh3 D hU ⟨rfl, _, _, ⟨xh3, rfl, h3, -⟩, -, -, hs⟩
      replace h3 := h3.sett hs
      clear hs
      repeat (first | refine run_S ?_ | refine w_box (fun _ => ?_) | refine w_al (fun _ => ?_))
      exact sk_cut (E' := [(2, .pointer (some ⟨b2, 0, none⟩)), (3, .pointer (some ⟨b3, 0, none⟩)), (4, .pointer (some ⟨b4, 0, none⟩)), (5, .pointer (some ⟨b5, 0, none⟩))]) ⟨rfl, rfl, rfl, rfl, trivial⟩ ⟨_, xh3, h3, by omega, sg.neg, q1, q2, rfl, uc, rfl⟩
    · have hlt : 0 < d := by
        rcases Int.lt_trichotomy d 0 with h | h | h
        · rw [Int.sign_eq_neg_one_of_neg h] at h2; omega
        · exact absurd h hd
        · exact h
      obtain ⟨q1, q2⟩ := over_pos (n := n) hlt
      repeat (first | refine run_S ?_ | refine w_box (fun _ => ?_) | refine w_al (fun _ => ?_))
      exact sk_cut (E' := [(2, .pointer (some ⟨b2, 0, none⟩)), (3, .pointer (some ⟨b3, 0, none⟩)), (4, .pointer (some ⟨b4, 0, none⟩)), (5, .pointer (some ⟨b5, 0, none⟩))]) ⟨rfl, rfl, rfl, rfl, trivial⟩ ⟨_, xhg, hg, by omega, sg, q1, q2, rfl, uc, rfl⟩
  · clear hg hg0 sg
    rintro E U' M' ⟨g, w, hg, hg0, sg, q1, q2, rfl, hU2, rfl⟩
    try refine run_s ?_
    refine st_draw [0, 1, 2] sym (by kernel_rfl) ?_
    repeat (first | refine run_S ?_ | refine w_box (fun _ => ?_) | refine w_al (fun _ => ?_))
    refine sl_call rfl rfl rfl rfl rfl rfl (fun _ => (rOf_ct (z := 1) (by decide) (by decide)).settle) ?_
    rintro v Uh3 D hU ⟨rfl, _, _, ⟨xh3, rfl, h3, -⟩, -, -, hs⟩
    replace h3 := h3.sett hs
    clear hs
    repeat (first | refine run_S ?_ | refine w_box (fun _ => ?_) | refine w_al (fun _ => ?_))
    refine sl_call rfl rfl rfl rfl rfl rfl (fun _ => rSame_cz (hg.up uc sb) (h3.up uc sb)) ?_
    rintro v U' D hU ⟨rfl, rfl, rfl⟩
    repeat (first | refine run_S ?_ | refine w_box (fun _ => ?_) | refine w_al (fun _ => ?_))
    by_cases hg1 : g = 1
    · rw [decide_eq_true hg1]
      rw [hg1] at q1 q2
      simp at q1 q2
      repeat (first | refine run_S ?_ | refine w_box (fun _ => ?_) | refine w_al (fun _ => ?_))
      refine st_draw [0, 2, 1, 3, 4, 5] sym (by kernel_rfl) ?_
      repeat (first | refine run_S ?_ | refine w_box (fun _ => ?_) | refine w_al (fun _ => ?_))
      refine sl_call rfl rfl rfl rfl rfl rfl (fun _ => (NormW_ct (hx.up uc sb) (by omega)).settle) ?_
      rintro v Uh4 D hU ⟨rfl, _, _, ⟨xh4, rfl, h4, -⟩, -, -, hs⟩
      replace h4 := h4.sett hs
      clear hs
      repeat (first | refine run_S ?_ | refine w_box (fun _ => ?_) | refine w_al (fun _ => ?_))
      refine sl_call rfl rfl rfl rfl rfl rfl (fun _ => (NormW_ct (hy.up uc sb) (by omega)).settle) ?_
      rintro v Uh5 D hU ⟨rfl, _, _, ⟨xh5, rfl, h5, -⟩, -, -, hs⟩
      replace h5 := h5.sett hs
      clear hs
      repeat (first | refine run_S ?_ | refine w_box (fun _ => ?_) | refine w_al (fun _ => ?_))
      exact sk_ret [] sym rfl (.cons (.cell 1 rfl rfl rfl) .nil) uc sb (.inl rfl) ⟨⟨xh4, xh5⟩, rfl, ⟨by rw [q1]; exact h4.up uc sb, by rw [q2]; exact h5⟩, rfl⟩
    · rw [decide_eq_false hg1]
      repeat (first | refine run_S ?_ | refine w_box (fun _ => ?_) | refine w_al (fun _ => ?_))
      refine st_draw [0, 1, 3, 4, 2, 5, 6, 7] sym (by kernel_rfl) ?_
      repeat (first | refine run_S ?_ | refine w_box (fun _ => ?_) | refine w_al (fun _ => ?_))
      refine sl_call rfl rfl rfl rfl rfl rfl (fun _ => (rDividedW_ct (hx.up uc sb) (by omega) (hg.rep.up uc sb) (hg.le (sg) (by omega)) hg0).settle) ?_
      rintro v Uh4 D hU ⟨rfl, _, _, ⟨xh4, rfl, h4, -⟩, -, -, hs⟩
      replace h4 := h4.sett hs
      clear hs
      repeat (first | refine run_S ?_ | refine w_box (fun _ => ?_) | refine w_al (fun _ => ?_))
      refine sl_call rfl rfl rfl rfl rfl rfl (fun _ => (rDividedW_ct (hy.up uc sb) (by omega) (hg.rep.up uc sb) (hg.le (sg) (by omega)) hg0).settle) ?_
      rintro v Uh5 D hU ⟨rfl, _, _, ⟨xh5, rfl, h5, -⟩, -, -, hs⟩
      replace h5 := h5.sett hs
      clear hs
      repeat (first | refine run_S ?_ | refine w_box (fun _ => ?_) | refine w_al (fun _ => ?_))
      exact sk_ret [] sym rfl (.cons (.cell 1 rfl rfl rfl) .nil) uc sb (.inl rfl) ⟨⟨xh4, xh5⟩, rfl, ⟨by rw [q1]; exact h4.up uc sb, by rw [q2]; exact h5⟩, rfl⟩

theorem rqNormalW_ct {x : QV} {q : Rat} (hx : x.rep U M q) (hn : x.le 35184372087808) :
    Ct Try.prog 5 [x.v] G U M fun v U' D => ∃ r : QV, v = r.v ∧ r.nrm U' [] q ∧ D = [] := by
  obtain ⟨n, d, h1, h2, rfl⟩ := hx
  refine ct_of_st Try.func5 rfl rfl rfl rfl ?_
  repeat (first | refine run_S ?_ | refine w_box (fun _ => ?_) | refine w_al (fun _ => ?_))
  refine sl_call rfl rfl rfl rfl rfl rfl (fun _ => rqOverW_ct (h1.up uc sb) (by omega) (h2.up uc sb) (by omega)) ?_
  rintro v Uh3 D hU ⟨xh3, rfl, h3, rfl⟩
  repeat (first | refine run_S ?_ | refine w_box (fun _ => ?_) | refine w_al (fun _ => ?_))
  exact sk_ret [] sym rfl (.cons (.cell 0 rfl rfl rfl) .nil) uc sb (.inl rfl) ⟨xh3, rfl, h3, rfl⟩

end Go.Proofs.Ytlnmhjkagnfnaaa

/- The law of layer 13 on fractions and their residues, for digits up to the reach of a claim. -/
namespace Go.Proofs.Ytlnmhjkagnfnaaa
open Go.Hp Go.Fq
variable {G : World} {U U' : UH} {M : MH}

set_option maxRecDepth 100000 in
theorem ModmatrixFractionsW_ct {x : QV} {m k : IV} {q : Rat} {zm zk : Int} (hx : x.rep U [] q) (hxn : x.le 35184372087808) (hm : m.rep U [] zm) (hk : k.rep U [] zk) :
    Ct Try.prog 3 [x.v, m.v, k.v] G U M fun v _ _ => v = .bool true := by
  have s0 : Sz (0 : Int) 1 := by unfold Sz; decide
  have s1 : Sz (1 : Int) 1 := by unfold Sz; decide
  have s2 : Sz (2 : Int) 1 := by unfold Sz; decide
  have hd0 := rat_den_pos q
  refine ct_of_st Try.func3 rfl rfl rfl rfl ?_
  repeat (first | refine run_S ?_ | refine w_box (fun _ => ?_) | refine w_al (fun _ => ?_))
  rename_i b3 b4 b5
  refine sl_call rfl rfl rfl rfl rfl rfl (fun _ => awake13_ct) ?_
  rintro v1 U1 D1 hU1 ⟨rfl, -, rfl⟩
  rw [List.nil_append]
  repeat (first | refine run_S ?_ | refine w_box (fun _ => ?_) | refine w_al (fun _ => ?_))
  refine sl_call rfl rfl rfl rfl rfl rfl (fun _ => rqNormalW_ct (hx.up uc sb) hxn) ?_
  rintro v Uh2 D hU ⟨xh2, rfl, h2, rfl⟩
  repeat (first | refine run_S ?_ | refine w_box (fun _ => ?_) | refine w_al (fun _ => ?_))
  rename_i b7
  refine st_drawM [0, 1, 2, 5, 6, 7, 8, 9, 13, 14, 15, 17, 18, 19, 20, 21, 22, 24, 25, 26, 27, 28, 29] [0, 1, 2, 3, 4, 5, 6, 7, 8, 9, 10, 11, 12, 13, 14, 15, 16, 17, 18, 19, 20, 21, 22, 23, 24, 25, 26, 27, 28, 29] sym (by kernel_rfl) ?_
  repeat (first | refine run_S ?_ | refine w_box (fun _ => ?_) | refine w_al (fun _ => ?_))
  refine sl_gdec rfl rfl (fun h => ?_) (fun hn1 => ?_)
  · repeat (first | refine run_S ?_ | refine w_box (fun _ => ?_) | refine w_al (fun _ => ?_))
    exact sk_ret [] sym rfl (.cons (.tmp rfl) .nil) uc sb (.inl rfl) rfl
  repeat (first | refine run_S ?_ | refine w_box (fun _ => ?_) | refine w_al (fun _ => ?_))
  refine sl_gdec rfl rfl (fun h => ?_) (fun hn2 => ?_)
  · repeat (first | refine run_S ?_ | refine w_box (fun _ => ?_) | refine w_al (fun _ => ?_))
    exact sk_ret [] sym rfl (.cons (.tmp rfl) .nil) uc sb (.inl rfl) rfl
  repeat (first | refine run_S ?_ | refine w_box (fun _ => ?_) | refine w_al (fun _ => ?_))
  refine sl_call rfl rfl rfl rfl rfl rfl (fun _ => (rOf_ct (z := 2) (by decide) (by decide)).settle) ?_
  rintro v Uh3 D hU ⟨rfl, _, _, ⟨xh3, rfl, h3, -⟩, -, -, hs⟩
  replace h3 := h3.sett hs
  clear hs
  repeat (first | refine run_S ?_ | refine w_box (fun _ => ?_) | refine w_al (fun _ => ?_))
  refine sl_call rfl rfl rfl rfl rfl rfl (fun _ => rCmp_ct (hm.up uc sb) (by omega) (h3.rep.up uc sb) (h3.le (s2) (by omega))) ?_
  rintro v U' D hU ⟨rfl, rfl, rfl⟩
  repeat (first | refine run_S ?_ | refine w_box (fun _ => ?_) | refine w_al (fun _ => ?_))
  refine sl_gdec rfl rfl (fun h => ?_) (fun hn3 => ?_)
  · repeat (first | refine run_S ?_ | refine w_box (fun _ => ?_) | refine w_al (fun _ => ?_))
    exact sk_ret [] sym rfl (.cons (.tmp rfl) .nil) uc sb (.inl rfl) rfl
  have hm2 : 2 ≤ zm := by
    rcases Int.lt_or_le zm 2 with h | h
    · exact absurd (by rw [Int.sign_eq_neg_one_of_neg (by omega)]; decide) hn3
    · exact h
  repeat (first | refine run_S ?_ | refine w_box (fun _ => ?_) | refine w_al (fun _ => ?_))
  refine sl_gdec rfl rfl (fun h => ?_) (fun hn4 => ?_)
  · repeat (first | refine run_S ?_ | refine w_box (fun _ => ?_) | refine w_al (fun _ => ?_))
    exact sk_ret [] sym rfl (.cons (.tmp rfl) .nil) uc sb (.inl rfl) rfl
  repeat (first | refine run_S ?_ | refine w_box (fun _ => ?_) | refine w_al (fun _ => ?_))
  refine st_dec rfl (fun h => ?_) (fun hn5 => ?_)
  · repeat (first | refine run_S ?_ | refine w_box (fun _ => ?_) | refine w_al (fun _ => ?_))
    exact sk_ret [] sym rfl (.cons (.tmp rfl) .nil) uc sb (.inl rfl) rfl
  have sm : Sz zm 6 := hm.sz (by omega)
  have sk : Sz zk 6 := hk.sz (by omega)
  have sn : Sz q.num 3 := h2.1.rep.sz (by omega)
  have sd : Sz (q.den : Int) 3 := h2.2.rep.sz (by omega)
  repeat (first | refine run_S ?_ | refine w_box (fun _ => ?_) | refine w_al (fun _ => ?_))
  refine sl_call rfl rfl rfl rfl rfl rfl (fun _ => z13Limit_ct (hm.up uc sb) (by omega) (by omega)) ?_
  rintro v4 U4 D4 hU4 ⟨x4, most, rfl, h4, hR1, hR2, rfl⟩
  try rw [List.nil_append]
  repeat (first | refine run_S ?_ | refine w_box (fun _ => ?_) | refine w_al (fun _ => ?_))
  have hmm : (most : Int) ≤ zm := by
    have : most ≤ most * most ∨ most = 0 := by
      rcases Nat.eq_zero_or_pos most with h | h
      · exact .inr h
      · exact .inl (Nat.le_mul_of_pos_left most h)
    omega
  have s4 : Sz (most : Int) 6 := sz_le sm (by omega)
  refine st_drawM [4, 10, 11, 12, 17, 18, 19, 20, 21] [0, 1, 3, 2, 4, 5, 6, 7, 8, 9, 10, 11, 12, 13, 14, 15, 16, 17, 18, 19, 20, 21] sym (by kernel_rfl) ?_
  repeat (first | refine run_S ?_ | refine w_box (fun _ => ?_) | refine w_al (fun _ => ?_))
  refine sl_call rfl rfl rfl rfl rfl rfl (fun _ => (rAbs_ct (h2.1.rep.up uc sb) (h2.1.le sn (by omega))).settle) ?_
  rintro v Uh5 D hU ⟨rfl, _, _, ⟨xh5, rfl, h5, -⟩, -, -, hs⟩
  replace h5 := h5.sett hs
  clear hs
  repeat (first | refine run_S ?_ | refine w_box (fun _ => ?_) | refine w_al (fun _ => ?_))
  refine sl_call rfl rfl rfl rfl rfl rfl (fun _ => rCmp_ct (h5.rep.up uc sb) (h5.le sn.abs (by omega)) (h4.rep.up uc sb) (h4.le (s4) (by omega))) ?_
  rintro v U' D hU ⟨rfl, rfl, rfl⟩
  repeat (first | refine run_S ?_ | refine w_box (fun _ => ?_) | refine w_al (fun _ => ?_))
  refine sl_gdec rfl rfl (fun h => ?_) (fun hn6 => ?_)
  · repeat (first | refine run_S ?_ | refine w_box (fun _ => ?_) | refine w_al (fun _ => ?_))
    exact sk_ret [] sym rfl (.cons (.tmp rfl) .nil) uc sb (.inl rfl) rfl
  have hq1 : (q.num.natAbs : Int) ≤ most := by
    rcases Int.lt_or_le (most : Int) (q.num.natAbs : Int) with h | h
    · exact absurd (by rw [Int.sign_eq_one_of_pos (by omega)]; decide) hn6
    · exact h
  have hq0 : -(most : Int) ≤ q.num ∧ q.num ≤ most := abs_in hq1
  have hd1 : (1 : Int) ≤ q.den := hd0
  repeat (first | refine run_S ?_ | refine w_box (fun _ => ?_) | refine w_al (fun _ => ?_))
  refine sl_call rfl rfl rfl rfl rfl rfl (fun _ => rCmp_ct (h2.2.rep.up uc sb) (h2.2.le sd (by omega)) (h4.rep.up uc sb) (h4.le (s4) (by omega))) ?_
  rintro v U' D hU ⟨rfl, rfl, rfl⟩
  repeat (first | refine run_S ?_ | refine w_box (fun _ => ?_) | refine w_al (fun _ => ?_))
  refine sl_gdec rfl rfl (fun h => ?_) (fun hn7 => ?_)
  · repeat (first | refine run_S ?_ | refine w_box (fun _ => ?_) | refine w_al (fun _ => ?_))
    exact sk_ret [] sym rfl (.cons (.tmp rfl) .nil) uc sb (.inl rfl) rfl
  have hq2 : (q.den : Int) ≤ most := by
    rcases Int.lt_or_le (most : Int) (q.den : Int) with h | h
    · exact absurd (by rw [Int.sign_eq_one_of_pos (by omega)]; decide) hn7
    · exact h
  repeat (first | refine run_S ?_ | refine w_box (fun _ => ?_) | refine w_al (fun _ => ?_))
  refine sl_call rfl rfl rfl rfl rfl rfl (fun _ => (rGcd_ct (h2.2.rep.up uc sb) (h2.2.le sd (by omega)) (hm.up uc sb) (by omega)).settle) ?_
  rintro v Uh6 D hU ⟨rfl, _, _, ⟨xh6, rfl, h6, -⟩, -, -, hs⟩
  replace h6 := h6.sett hs
  clear hs
  repeat (first | refine run_S ?_ | refine w_box (fun _ => ?_) | refine w_al (fun _ => ?_))
  refine sl_call rfl rfl rfl rfl rfl rfl (fun _ => (rOf_ct (z := 1) (by decide) (by decide)).settle) ?_
  rintro v Uh7 D hU ⟨rfl, _, _, ⟨xh7, rfl, h7, -⟩, -, -, hs⟩
  replace h7 := h7.sett hs
  clear hs
  repeat (first | refine run_S ?_ | refine w_box (fun _ => ?_) | refine w_al (fun _ => ?_))
  refine sl_call rfl rfl rfl rfl rfl rfl (fun _ => rSame_cz (h6.up uc sb) (h7.up uc sb)) ?_
  rintro v U' D hU ⟨rfl, rfl, rfl⟩
  repeat (first | refine run_S ?_ | refine w_box (fun _ => ?_) | refine w_al (fun _ => ?_))
  by_cases hg : (Int.gcd (q.den : Int) zm : Int) = 1
  rotate_left
  · rw [decide_eq_false hg]
    repeat (first | refine run_S ?_ | refine w_box (fun _ => ?_) | refine w_al (fun _ => ?_))
    exact sk_ret [] sym rfl (.cons (.tmp rfl) .nil) uc sb (.inl rfl) rfl
  rw [decide_eq_true hg]
  have hg1 : Int.gcd (q.den : Int) zm = 1 := by omega
  repeat (first | refine run_S ?_ | refine w_box (fun _ => ?_) | refine w_al (fun _ => ?_))
  refine st_cutK (fun E U' M' => ∃ (b9 b10 : Nat) (x1 k1 : IV) (X K e : Int), x1.nrm U' [] X ∧ k1.nrm U' [] K ∧ Out (fun i => if i = 0 then 0 else 1) (fun i => if i = 0 then (q.den : Int) else zm) 2 X K e ∧ E = [(11, .int .i64 e), (10, .pointer (some ⟨b10, 0, none⟩)), (9, .pointer (some ⟨b9, 0, none⟩)), (7, .pointer (some ⟨b7, 0, none⟩)), (3, .pointer (some ⟨b3, 0, none⟩)), (4, .pointer (some ⟨b4, 0, none⟩)), (5, .pointer (some ⟨b5, 0, none⟩))] ∧ ULe Uh7 U' ∧ M' = (b10, .var k1.v, 24) :: (b9, .var x1.v, 24) :: (b7, .var xh2.v, 26) :: (b5, .var k.v, 24) :: (b4, .var m.v, 24) :: (b3, .var x.v, 26) :: M) ?_ ?_
  · refine st_drawTM [14, 15, 16] (.node 2 6 (.leaf [3, 4, 5, 0, 1, 2, 6, 7, 8, 9, 10, 11, 12, 13, 14, 15, 16]) (.node 1 6 (.leaf [3, 4, 5, 0, 1, 6, 2, 7, 8, 9, 10, 11, 12, 13, 14, 15, 16]) (.node 0 6 (.leaf [3, 4, 5, 0, 6, 1, 2, 7, 8, 9, 10, 11, 12, 13, 14, 15, 16]) (.leaf [3, 4, 5, 6, 0, 1, 2, 7, 8, 9, 10, 11, 12, 13, 14, 15, 16])))) sym (by kernel_rfl) (by kernel_rfl) (slTM_node (slTM_leaf ?_) (slTM_node (slTM_leaf ?_) (slTM_node (slTM_leaf ?_) (slTM_leaf ?_))))
    · repeat (first | refine run_S ?_ | refine w_box (fun _ => ?_) | refine w_al (fun _ => ?_))
      refine sl_call rfl rfl rfl rfl rfl rfl (fun _ => (rOf_ct (z := 0) (by decide) (by decide)).settle) ?_
      rintro v Uh8 D hU ⟨rfl, _, _, ⟨xh8, rfl, h8, -⟩, -, -, hs⟩
      replace h8 := h8.sett hs
      clear hs
      repeat (first | refine run_S ?_ | refine w_box (fun _ => ?_) | refine w_al (fun _ => ?_))
      refine sl_call rfl rfl rfl rfl rfl rfl (fun _ => (rOf_ct (z := 1) (by decide) (by decide)).settle) ?_
      rintro v Uh9 D hU ⟨rfl, _, _, ⟨xh9, rfl, h9, -⟩, -, -, hs⟩
      replace h9 := h9.sett hs
      clear hs
      repeat (first | refine run_S ?_ | refine w_box (fun _ => ?_) | refine w_al (fun _ => ?_))
      repeat (first | refine run_S ?_ | refine w_box (fun _ => ?_) | refine w_al (fun _ => ?_))
      refine sl_bslice (vs := [xh8.v, xh9.v]) sym rfl rfl rfl rfl rfl rfl (all_size rfl) rfl rfl rfl rfl rfl rfl (fun b77 => ?_)
      repeat (first | refine run_S ?_ | refine w_box (fun _ => ?_) | refine w_al (fun _ => ?_))
      refine sl_bslice (vs := [xh2.den.v, m.v]) sym rfl rfl rfl rfl rfl rfl (all_size rfl) rfl rfl rfl rfl rfl rfl (fun b81 => ?_)
      refine sl_call rfl rfl rfl rfl rfl rfl (fun _ => fChinese_ct (two_ints (e := 24) (s := 1) (b := b77) (h8.rep.up uc sb) (h9.rep.up uc sb) (h8.le s0 (by decide)) (h9.le s1 (by decide)) sb) (two_ints (e := 24) (s := 6) (b := b81) (h2.2.rep.up uc sb) (hm.up uc sb) (by omega) (by omega) sb) (by decide) (by decide) (by decide) (by decide)) ?_
      rintro v10 U10 D10 hU10 ⟨x1, k1, X, K, e, rfl, rfl, hX, hK, -, heq⟩
      try rw [List.nil_append]
      repeat (first | refine run_S ?_ | refine w_box (fun _ => ?_) | refine w_al (fun _ => ?_))
      rename_i b9 b10
      refine sk_anti (M' := (b10, .var k1.v, 24) :: (b9, .var x1.v, 24) :: (b7, .var xh2.v, 26) :: (b5, .var k.v, 24) :: (b4, .var m.v, 24) :: (b3, .var x.v, 26) :: M) (ULe.refl _) sbk ?_
      exact sk_cut (E' := [(11, .int .i64 e), (10, .pointer (some ⟨b10, 0, none⟩)), (9, .pointer (some ⟨b9, 0, none⟩)), (7, .pointer (some ⟨b7, 0, none⟩)), (3, .pointer (some ⟨b3, 0, none⟩)), (4, .pointer (some ⟨b4, 0, none⟩)), (5, .pointer (some ⟨b5, 0, none⟩))]) ⟨rfl, rfl, rfl, rfl, rfl, rfl, rfl, trivial⟩ ⟨b9, b10, x1, k1, X, K, e, hX, hK, heq rfl, rfl, uc, rfl⟩
    · repeat (first | refine run_S ?_ | refine w_box (fun _ => ?_) | refine w_al (fun _ => ?_))
      refine sl_call rfl rfl rfl rfl rfl rfl (fun _ => (rOf_ct (z := 0) (by decide) (by decide)).settle) ?_
      rintro v Uh8 D hU ⟨rfl, _, _, ⟨xh8, rfl, h8, -⟩, -, -, hs⟩
      replace h8 := h8.sett hs
      clear hs
      repeat (first | refine run_S ?_ | refine w_box (fun _ => ?_) | refine w_al (fun _ => ?_))
      refine sl_call rfl rfl rfl rfl rfl rfl (fun _ => (rOf_ct (z := 1) (by decide) (by decide)).settle) ?_
      rintro v Uh9 D hU ⟨rfl, _, _, ⟨xh9, rfl, h9, -⟩, -, -, hs⟩
      replace h9 := h9.sett hs
      clear hs
      repeat (first | refine run_S ?_ | refine w_box (fun _ => ?_) | refine w_al (fun _ => ?_))
      repeat (first | refine run_S ?_ | refine w_box (fun _ => ?_) | refine w_al (fun _ => ?_))
      refine sl_bslice (vs := [xh2.den.v, m.v]) sym rfl rfl rfl rfl rfl rfl (all_size rfl) rfl rfl rfl rfl rfl rfl (fun b81 => ?_)
      repeat (first | refine run_S ?_ | refine w_box (fun _ => ?_) | refine w_al (fun _ => ?_))
      refine sl_bslice (vs := [xh8.v, xh9.v]) sym rfl rfl rfl rfl rfl rfl (all_size rfl) rfl rfl rfl rfl rfl rfl (fun b77 => ?_)
      refine sl_call rfl rfl rfl rfl rfl rfl (fun _ => fChinese_ct (two_ints (e := 24) (s := 1) (b := b77) (h8.rep.up uc sb) (h9.rep.up uc sb) (h8.le s0 (by decide)) (h9.le s1 (by decide)) sb) (two_ints (e := 24) (s := 6) (b := b81) (h2.2.rep.up uc sb) (hm.up uc sb) (by omega) (by omega) sb) (by decide) (by decide) (by decide) (by decide)) ?_
      rintro v10 U10 D10 hU10 ⟨x1, k1, X, K, e, rfl, rfl, hX, hK, -, heq⟩
      try rw [List.nil_append]
      repeat (first | refine run_S ?_ | refine w_box (fun _ => ?_) | refine w_al (fun _ => ?_))
      rename_i b9 b10
      refine sk_anti (M' := (b10, .var k1.v, 24) :: (b9, .var x1.v, 24) :: (b7, .var xh2.v, 26) :: (b5, .var k.v, 24) :: (b4, .var m.v, 24) :: (b3, .var x.v, 26) :: M) (ULe.refl _) sbk ?_
      exact sk_cut (E' := [(11, .int .i64 e), (10, .pointer (some ⟨b10, 0, none⟩)), (9, .pointer (some ⟨b9, 0, none⟩)), (7, .pointer (some ⟨b7, 0, none⟩)), (3, .pointer (some ⟨b3, 0, none⟩)), (4, .pointer (some ⟨b4, 0, none⟩)), (5, .pointer (some ⟨b5, 0, none⟩))]) ⟨rfl, rfl, rfl, rfl, rfl, rfl, rfl, trivial⟩ ⟨b9, b10, x1, k1, X, K, e, hX, hK, heq rfl, rfl, uc, rfl⟩
    · repeat (first | refine run_S ?_ | refine w_box (fun _ => ?_) | refine w_al (fun _ => ?_))
      refine sl_call rfl rfl rfl rfl rfl rfl (fun _ => (rOf_ct (z := 0) (by decide) (by decide)).settle) ?_
      rintro v Uh8 D hU ⟨rfl, _, _, ⟨xh8, rfl, h8, -⟩, -, -, hs⟩
      replace h8 := h8.sett hs
      clear hs
      repeat (first | refine run_S ?_ | refine w_box (fun _ => ?_) | refine w_al (fun _ => ?_))
      repeat (first | refine run_S ?_ | refine w_box (fun _ => ?_) | refine w_al (fun _ => ?_))
      refine sl_bslice (vs := [xh2.den.v, m.v]) sym rfl rfl rfl rfl rfl rfl (all_size rfl) rfl rfl rfl rfl rfl rfl (fun b81 => ?_)
      refine sl_call rfl rfl rfl rfl rfl rfl (fun _ => (rOf_ct (z := 1) (by decide) (by decide)).settle) ?_
      rintro v Uh9 D hU ⟨rfl, _, _, ⟨xh9, rfl, h9, -⟩, -, -, hs⟩
      replace h9 := h9.sett hs
      clear hs
      repeat (first | refine run_S ?_ | refine w_box (fun _ => ?_) | refine w_al (fun _ => ?_))
      repeat (first | refine run_S ?_ | refine w_box (fun _ => ?_) | refine w_al (fun _ => ?_))
      refine sl_bslice (vs := [xh8.v, xh9.v]) sym rfl rfl rfl rfl rfl rfl (all_size rfl) rfl rfl rfl rfl rfl rfl (fun b77 => ?_)
      refine sl_call rfl rfl rfl rfl rfl rfl (fun _ => fChinese_ct (two_ints (e := 24) (s := 1) (b := b77) (h8.rep.up uc sb) (h9.rep.up uc sb) (h8.le s0 (by decide)) (h9.le s1 (by decide)) sb) (two_ints (e := 24) (s := 6) (b := b81) (h2.2.rep.up uc sb) (hm.up uc sb) (by omega) (by omega) sb) (by decide) (by decide) (by decide) (by decide)) ?_
      rintro v10 U10 D10 hU10 ⟨x1, k1, X, K, e, rfl, rfl, hX, hK, -, heq⟩
      try rw [List.nil_append]
      repeat (first | refine run_S ?_ | refine w_box (fun _ => ?_) | refine w_al (fun _ => ?_))
      rename_i b9 b10
      refine sk_anti (M' := (b10, .var k1.v, 24) :: (b9, .var x1.v, 24) :: (b7, .var xh2.v, 26) :: (b5, .var k.v, 24) :: (b4, .var m.v, 24) :: (b3, .var x.v, 26) :: M) (ULe.refl _) sbk ?_
      exact sk_cut (E' := [(11, .int .i64 e), (10, .pointer (some ⟨b10, 0, none⟩)), (9, .pointer (some ⟨b9, 0, none⟩)), (7, .pointer (some ⟨b7, 0, none⟩)), (3, .pointer (some ⟨b3, 0, none⟩)), (4, .pointer (some ⟨b4, 0, none⟩)), (5, .pointer (some ⟨b5, 0, none⟩))]) ⟨rfl, rfl, rfl, rfl, rfl, rfl, rfl, trivial⟩ ⟨b9, b10, x1, k1, X, K, e, hX, hK, heq rfl, rfl, uc, rfl⟩
    · repeat (first | refine run_S ?_ | refine w_box (fun _ => ?_) | refine w_al (fun _ => ?_))
      repeat (first | refine run_S ?_ | refine w_box (fun _ => ?_) | refine w_al (fun _ => ?_))
      refine sl_bslice (vs := [xh2.den.v, m.v]) sym rfl rfl rfl rfl rfl rfl (all_size rfl) rfl rfl rfl rfl rfl rfl (fun b81 => ?_)
      refine sl_call rfl rfl rfl rfl rfl rfl (fun _ => (rOf_ct (z := 0) (by decide) (by decide)).settle) ?_
      rintro v Uh8 D hU ⟨rfl, _, _, ⟨xh8, rfl, h8, -⟩, -, -, hs⟩
      replace h8 := h8.sett hs
      clear hs
      repeat (first | refine run_S ?_ | refine w_box (fun _ => ?_) | refine w_al (fun _ => ?_))
      refine sl_call rfl rfl rfl rfl rfl rfl (fun _ => (rOf_ct (z := 1) (by decide) (by decide)).settle) ?_
      rintro v Uh9 D hU ⟨rfl, _, _, ⟨xh9, rfl, h9, -⟩, -, -, hs⟩
      replace h9 := h9.sett hs
      clear hs
      repeat (first | refine run_S ?_ | refine w_box (fun _ => ?_) | refine w_al (fun _ => ?_))
      repeat (first | refine run_S ?_ | refine w_box (fun _ => ?_) | refine w_al (fun _ => ?_))
      refine sl_bslice (vs := [xh8.v, xh9.v]) sym rfl rfl rfl rfl rfl rfl (all_size rfl) rfl rfl rfl rfl rfl rfl (fun b77 => ?_)
      refine sl_call rfl rfl rfl rfl rfl rfl (fun _ => fChinese_ct (two_ints (e := 24) (s := 1) (b := b77) (h8.rep.up uc sb) (h9.rep.up uc sb) (h8.le s0 (by decide)) (h9.le s1 (by decide)) sb) (two_ints (e := 24) (s := 6) (b := b81) (h2.2.rep.up uc sb) (hm.up uc sb) (by omega) (by omega) sb) (by decide) (by decide) (by decide) (by decide)) ?_
      rintro v10 U10 D10 hU10 ⟨x1, k1, X, K, e, rfl, rfl, hX, hK, -, heq⟩
      try rw [List.nil_append]
      repeat (first | refine run_S ?_ | refine w_box (fun _ => ?_) | refine w_al (fun _ => ?_))
      rename_i b9 b10
      refine sk_anti (M' := (b10, .var k1.v, 24) :: (b9, .var x1.v, 24) :: (b7, .var xh2.v, 26) :: (b5, .var k.v, 24) :: (b4, .var m.v, 24) :: (b3, .var x.v, 26) :: M) (ULe.refl _) sbk ?_
      exact sk_cut (E' := [(11, .int .i64 e), (10, .pointer (some ⟨b10, 0, none⟩)), (9, .pointer (some ⟨b9, 0, none⟩)), (7, .pointer (some ⟨b7, 0, none⟩)), (3, .pointer (some ⟨b3, 0, none⟩)), (4, .pointer (some ⟨b4, 0, none⟩)), (5, .pointer (some ⟨b5, 0, none⟩))]) ⟨rfl, rfl, rfl, rfl, rfl, rfl, rfl, trivial⟩ ⟨b9, b10, x1, k1, X, K, e, hX, hK, heq rfl, rfl, uc, rfl⟩
  rintro E U10 M' ⟨b9, b10, x1, k1, X, K, e, hX, hK, heq, rfl, hU10, rfl⟩
  try refine run_s ?_
  obtain ⟨rfl, g1, g2, rfl, g3, g4⟩ := out_two (by omega) (by omega) (by omega) heq
  have sK : Sz ((q.den : Int) * zm) 9 := sd.mul sm
  have sX : Sz X 9 := sz_le sK (by omega)
  refine st_drawM [8, 9, 10] [0, 1, 2, 3, 4, 5, 6, 7, 8, 9, 10] sym (by kernel_rfl) ?_
  repeat (first | refine run_S ?_ | refine w_box (fun _ => ?_) | refine w_al (fun _ => ?_))
  refine sl_gdec rfl rfl (fun h => absurd rfl h) (fun _ => ?_)
  repeat (first | refine run_S ?_ | refine w_box (fun _ => ?_) | refine w_al (fun _ => ?_))
  refine sl_call rfl rfl rfl rfl rfl rfl (fun _ => (rMul_ct (h2.2.rep.up uc sb) (h2.2.le sd (by omega)) (hm.up uc sb) (by omega)).settle) ?_
  rintro v Uh11 D hU ⟨rfl, _, _, ⟨xh11, rfl, h11, -⟩, -, -, hs⟩
  replace h11 := h11.sett hs
  clear hs
  repeat (first | refine run_S ?_ | refine w_box (fun _ => ?_) | refine w_al (fun _ => ?_))
  refine sl_call rfl rfl rfl rfl rfl rfl (fun _ => rSame_cz (hK.up uc sb) (h11.up uc sb)) ?_
  rintro v U' D hU ⟨rfl, rfl, rfl⟩
  repeat (first | refine run_S ?_ | refine w_box (fun _ => ?_) | refine w_al (fun _ => ?_))
  rw [decide_eq_true rfl]
  repeat (first | refine run_S ?_ | refine w_box (fun _ => ?_) | refine w_al (fun _ => ?_))
  refine st_drawM [12] [0, 1, 2, 4, 5, 7, 8, 3, 6, 9, 10, 11, 12] sym (by kernel_rfl) ?_
  repeat (first | refine run_S ?_ | refine w_box (fun _ => ?_) | refine w_al (fun _ => ?_))
  refine sl_call rfl rfl rfl rfl rfl rfl (fun _ => (rDivided_ct (hX.rep.up uc sb) (hX.le (sX) (by omega)) (h2.2.rep.up uc sb) (h2.2.le sd (by omega)) (by omega)).settle) ?_
  rintro v Uh12 D hU ⟨rfl, _, _, ⟨xh12, rfl, h12, -⟩, -, -, hs⟩
  replace h12 := h12.sett hs
  clear hs
  repeat (first | refine run_S ?_ | refine w_box (fun _ => ?_) | refine w_al (fun _ => ?_))
  have s12 : Sz (X / (q.den : Int)) 9 := sz_le sX (by
    have := Int.ediv_le_self (q.den : Int) g1
    have := Int.ediv_nonneg g1 (show (0 : Int) ≤ q.den by omega)
    omega)
  refine sl_call rfl rfl rfl rfl rfl rfl (fun _ => (rMul_ct (h12.rep.up uc sb) (h12.le (s12) (by omega)) (h2.1.rep.up uc sb) (h2.1.le sn (by omega))).settle) ?_
  rintro v Uh13 D hU ⟨rfl, _, _, ⟨xh13, rfl, h13, -⟩, -, -, hs⟩
  replace h13 := h13.sett hs
  clear hs
  repeat (first | refine run_S ?_ | refine w_box (fun _ => ?_) | refine w_al (fun _ => ?_))
  refine sl_call rfl rfl rfl rfl rfl rfl (fun _ => (rMul_ct (hk.up uc sb) (by omega) (hm.up uc sb) (by omega)).settle) ?_
  rintro v Uh14 D hU ⟨rfl, _, _, ⟨xh14, rfl, h14, -⟩, -, -, hs⟩
  replace h14 := h14.sett hs
  clear hs
  repeat (first | refine run_S ?_ | refine w_box (fun _ => ?_) | refine w_al (fun _ => ?_))
  have s13 : Sz (X / (q.den : Int) * q.num) 12 := s12.mul sn
  have s14 : Sz (zk * zm) 12 := sk.mul sm
  refine sl_call rfl rfl rfl rfl rfl rfl (fun _ => (rAdd_ct (h13.rep.up uc sb) (h13.le (s13) (by omega)) (h14.rep.up uc sb) (h14.le (s14) (by omega))).settle) ?_
  rintro v Uh15 D hU ⟨rfl, _, _, ⟨xh15, rfl, h15, -⟩, -, -, hs⟩
  replace h15 := h15.sett hs
  clear hs
  repeat (first | refine run_S ?_ | refine w_box (fun _ => ?_) | refine w_al (fun _ => ?_))
  have s15 := s13.add s14
  refine sl_call rfl rfl rfl rfl rfl rfl (fun _ => fRecon_ct (h15.rep.up uc (List.Sublist.refl _)) (h15.le s15 (by omega)) (hm.up uc (List.Sublist.refl _)) (by omega)) ?_
  rintro v16 U16 D16 hU16 ⟨r, b, e, rfl, rfl, -, h16⟩
  try rw [List.nil_append]
  repeat (first | refine run_S ?_ | refine w_box (fun _ => ?_) | refine w_al (fun _ => ?_))
  obtain ⟨rfl, most2, hS1, hS2, h17⟩ := h16 hm2
  obtain rfl : most = most2 := root_uniq hR1 hR2 hS1 hS2
  have hres := frac_res (n := q.num) (k := zk) g3 g4
  have hz : b = true ∧ r.nrm U16 [] q := by
    rcases h17 with ⟨-, -, h8⟩ | ⟨hb, n, d, k1, k2, k3, k4, k5, k6, k7⟩
    · exact absurd hg1 (h8 q.num (q.den : Int) hd1 hq2 hq0.1 hq0.2 hres)
    · obtain ⟨n', d', j1, j2, j3, j4, j5, j6, j7⟩ := recon_pos k1 k2 k3 k4 k5 k6
      refine ⟨hb, ?_⟩
      rw [j7, recon_same hR1 hm2 j1 j2 j3 j4 j6 hd1 hq2 hq0.1 hq0.2 hres, rat_self] at k7
      exact k7
  obtain ⟨rfl, hr⟩ := hz
  repeat (first | refine run_S ?_ | refine w_box (fun _ => ?_) | refine w_al (fun _ => ?_))
  refine sl_gdec rfl rfl (fun _ => ?_) (fun h => absurd rfl h)
  repeat (first | refine run_S ?_ | refine w_box (fun _ => ?_) | refine w_al (fun _ => ?_))
  refine sl_call rfl rfl rfl rfl rfl rfl (fun _ => rqSame_ct (hr.up uc sb) (h2.up uc sb)) ?_
  rintro v U' D hU ⟨rfl, rfl, rfl⟩
  repeat (first | refine run_S ?_ | refine w_box (fun _ => ?_) | refine w_al (fun _ => ?_))
  rw [decide_eq_true rfl]
  repeat (first | refine run_S ?_ | refine w_box (fun _ => ?_) | refine w_al (fun _ => ?_))
  exact sk_ret [] sym rfl (.cons (.tmp rfl) .nil) uc sb (.inl rfl) rfl
end Go.Proofs.Ytlnmhjkagnfnaaa
