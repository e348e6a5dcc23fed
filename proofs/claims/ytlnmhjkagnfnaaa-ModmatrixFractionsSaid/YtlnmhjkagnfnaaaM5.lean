/- Texts of this seat's own, merged: each begins with its own remark. -/
import Derived.Test.YtlnmhjkagnfnaaaM4
import Derived.Test.YtlnmhjkagnfnaaaM2
/- Walks of the reference of layer 1, first part: normal forms, comparison of results. -/
namespace Go.Proofs.Ytlnmhjkagnfnaaa
open Go.Hp
variable {G : World} {U : UH} {M : MH}

theorem trim_ct {p : Option Addr} {n c : Nat} {l : List Nat} (h : Dig U M p n c l) (hn : n ≤ 1099511627776) :
    Ct Try.prog 37 [.slice p n c] G U M fun v U' D => ∃ q k cc, v = .slice q k cc ∧ Own D q k cc (tl l) ∧ k = (tl l).length ∧ U = U' := by
  have hcap := h.cap
  have hcm := h.capm
  have hle : (tl l).length ≤ n := by have := tl_length_le l; have := h.len; omega
  refine ct_of_st Try.func37 rfl rfl rfl rfl ?_
  refine st_seq ?_
  try refine run_o ?_
  refine st_seq ?_
  try refine run_o ?_
  refine st_seq_cut (fun E U' M' => E = [(3, .int .i64 ((tl l).length : Int)), (0, .slice p n c)] ∧ U = U' ∧ M = M') ?_ ?_
  · try refine run_s ?_
    refine st_loop (fun m E U' M' => ∃ k : Nat, k ≤ n ∧ tl (l.take k) = tl l ∧ E = [(3, .int .i64 (k : Int)), (0, .slice p n c)] ∧ U = U' ∧ M = M' ∧ k = m) (E0 := [(3, .int .i64 (n : Int)), (0, .slice p n c)]) (n0 := n) ⟨rfl, rfl, trivial⟩ ⟨n, Nat.le_refl _, by rw [List.take_of_length_le (by rw [h.len]; exact Nat.le_refl _)], rfl, rfl, rfl, rfl⟩ ?_
    rintro m E U' M' ⟨k, hk, htl, rfl, rfl, rfl, rfl⟩
    try refine run_s ?_
    refine sl_gdec rfl rfl (fun h0 => ?_) (fun h0 => ?_)
    · have hk0 : k - 1 < l.length := by rw [h.len]; omega
      have hd := List.getElem?_eq_getElem hk0
      obtain ⟨hp, hc⟩ := h.cell _ _ hd
      have hk1 : (k : Int) - 1 = ((k - 1 : Nat) : Int) := by omega
      try refine run_s ?_
      refine sl_y (yl_index1 sym rfl rfl rfl rfl rfl hk1 (by omega) hp) rfl rfl rfl rfl ?_
      refine sl_y (yl_loadD sym rfl rfl rfl rfl hc) rfl rfl rfl rfl ?_
      try refine run_s ?_
      refine st_eq rfl (fun h1 => ?_) (fun h1 => ?_)
      · try refine run_s ?_
        refine sk_again (E' := [(3, .int .i64 ((k : Int) - 1)), (0, .slice p n c)]) (m := k - 1) ⟨rfl, rfl, trivial⟩ (by omega) ⟨k - 1, by omega, ?_, by rw [hk1], rfl, rfl, rfl⟩
        have e := tl_take_succ (l := l) (k := k - 1) (by rw [hd]; congr 1; omega)
        rw [show k - 1 + 1 = k by omega] at e
        rw [← htl, e]
      · try refine run_s ?_
        have := tl_take_stop hd (by omega)
        rw [show k - 1 + 1 = k by omega, htl] at this
        exact sk_cut (E' := [(3, .int .i64 (k : Int)), (0, .slice p n c)]) ⟨rfl, rfl, trivial⟩ ⟨by rw [this, List.length_take, h.len, Nat.min_eq_left hk], rfl, rfl⟩
    · have hk0 : k = 0 := by omega
      subst hk0
      try refine run_s ?_
      exact sk_cut (E' := [(3, .int .i64 ((0 : Nat) : Int)), (0, .slice p n c)]) ⟨rfl, rfl, trivial⟩ ⟨by rw [← htl]; rfl, rfl, rfl⟩
  · rintro E U' M' ⟨rfl, rfl, rfl⟩
    repeat (first | refine run_S ?_ | refine w_box (fun _ => ?_) | refine w_al (fun _ => ?_))
    refine sl_bslice (vs := []) sym rfl rfl rfl rfl rfl rfl (by intro v hv; cases hv) rfl rfl rfl rfl rfl rfl (fun b => ?_)
    try refine run_s ?_
    refine sl_y (yl_sliceTo (h := (tl l).length) sym rfl rfl rfl rfl rfl rfl (by omega)) rfl rfl rfl rfl ?_
    have hrow : Row TU32 [(b, .arr [], TU32)] (some ⟨b, 0, none⟩) 0 0 [] := Row.row (r := []) (Nat.le_refl _) rfl (by omega)
    have hn1 := (h.tl.up (ULe.refl U) (List.sublist_cons_self (b, Blk.arr [], TU32) M)).news
    refine sl_append (D := [(b, .arr [], TU32)]) (M0 := M) (news := (tl l).map dg) (m := (tl l).length) sym rfl rfl rfl rfl rfl rfl rfl rfl hrow (by intro v hv; cases hv) ?_ (by rw [List.length_map]) (dg_size _) (dg_one _)
      (fun h => by
        obtain ⟨a0, h1, h2⟩ := hn1 h
        exact ⟨a0, h1, fun w hw => h2 w hw⟩) (by omega) (by omega) rfl rfl rfl rfl (fun p' cc D' hr' hs' => ?_)
    · intro k hk r hr v hv
      rw [List.mem_singleton.1 hk] at hr
      cases hr
      cases hv
    · try refine run_s ?_
      refine sk_ret D' sym rfl (.cons (.tmp rfl) .nil) (ULe.refl _) (List.Sublist.refl _) (.inl rfl) ?_
      rw [List.nil_append] at hr'
      exact ⟨_, _, _, rfl, Own.of_row hr' hs' h.tl.bd, by omega, rfl⟩

theorem Norm_ct {x : IV} {z : Int} (hx : x.rep U M z) (hn : x.n ≤ 1099511627776) :
    Ct Try.prog 38 [x.v] G U M fun v U' D => ∃ r : IV, v = r.v ∧ r.own D z ∧ U = U' := by
  obtain ⟨neg, p, n, c⟩ := x
  obtain ⟨l, hd, rfl⟩ := hx
  simp only at hd hn
  refine ct_of_st Try.func38 rfl rfl rfl rfl ?_
  repeat (first | refine run_S ?_ | refine w_box (fun _ => ?_) | refine w_al (fun _ => ?_))
  refine sl_call rfl rfl rfl rfl rfl rfl (fun _ => trim_ct ((hd.up (ULe.refl _) (.cons _ (.cons _ (List.Sublist.refl _)))).app _) hn) ?_
  rintro v U' D hU ⟨q, k, cc, rfl, ho, rfl, rfl⟩
  refine sl_perm ?_ (perm2 (D := D))
  repeat (first | refine run_S ?_ | refine w_box (fun _ => ?_) | refine w_al (fun _ => ?_))
  have hown := own_signed (neg := neg) ho
  rw [tl_tl, val_tl] at hown
  cases neg
  · repeat (first | refine run_S ?_ | refine w_box (fun _ => ?_) | refine w_al (fun _ => ?_))
    exact sk_ret D sym rfl (.cons (.cell 0 rfl rfl rfl) .nil) (ULe.refl _) (.cons _ (.cons _ (List.Sublist.refl _))) (.inl rfl) ⟨⟨false, q, _, cc⟩, rfl, hown, rfl⟩
  · repeat (first | refine run_S ?_ | refine w_box (fun _ => ?_) | refine w_al (fun _ => ?_))
    refine sk_ret D sym rfl (.cons (.cell 0 rfl rfl rfl) .nil) (ULe.refl _) (.cons _ (.cons _ (List.Sublist.refl _))) (.inl rfl) ⟨_, ?_, hown, rfl⟩
    have e : dec (((tl l).length : Int) > 0) = dec (0 < (tl l).length) := by simp [dec_eq]
    show Value.agg #[.bool (dec (((tl l).length : Int) > 0)), .slice q (tl l).length cc] = _
    rw [e]; rfl

theorem rsigned_ct {neg : Bool} {p : Option Addr} {n c : Nat} {l : List Nat} (hd : Dig U M p n c l) (hn : n ≤ 1099511627776) :
    Ct Try.prog 26 [.bool neg, .slice p n c] G U M fun v U' D => ∃ r : IV, v = r.v ∧ r.own D (sg neg (val l)) ∧ U = U' := by
  refine ct_of_st Try.func26 rfl rfl rfl rfl ?_
  repeat (first | refine run_S ?_ | refine w_box (fun _ => ?_) | refine w_al (fun _ => ?_))
  refine sl_call rfl rfl rfl rfl rfl rfl (fun _ => Norm_ct (x := ⟨neg, p, n, c⟩) ⟨l, (hd.up (ULe.refl _) (.cons _ (List.Sublist.refl _))).app _, rfl⟩ hn) ?_
  rintro v U' D hU ⟨r, rfl, ho, rfl⟩
  refine sl_perm ?_ (perm1 (D := D))
  repeat (first | refine run_S ?_ | refine w_box (fun _ => ?_) | refine w_al (fun _ => ?_))
  exact sk_ret D sym rfl (.cons (.cell 0 rfl rfl rfl) .nil) (ULe.refl _) (.cons _ (List.Sublist.refl _)) (.inl rfl) ⟨r, rfl, ho, rfl⟩

end Go.Proofs.Ytlnmhjkagnfnaaa

/- Walks of the reference of layer 1, second part. -/
namespace Go.Proofs.Ytlnmhjkagnfnaaa
open Go.Hp
variable {G : World} {U : UH} {M : MH}

end Go.Proofs.Ytlnmhjkagnfnaaa

/- Walks of the reference of layer 1, third part. -/
namespace Go.Proofs.Ytlnmhjkagnfnaaa
open Go.Hp
variable {G : World} {U : UH} {M : MH}

theorem rOf_ct {z : Int} (h0 : -9223372036854775808 ≤ z) (h1 : z ≤ 9223372036854775807) :
    Ct Try.prog 7 [.int .i64 z] G U M fun v U' D => ∃ r : IV, v = r.v ∧ r.own D z ∧ U = U' := by
  refine ct_of_st Try.func7 rfl rfl rfl rfl ?_
  repeat (first | refine run_O ?_ | refine w_box (fun _ => ?_) | refine w_al (fun _ => ?_))
  refine st_seq ?_
  repeat (first | refine run_O ?_ | refine w_box (fun _ => ?_) | refine w_al (fun _ => ?_))
  refine st_seq ?_
  repeat (first | refine run_O ?_ | refine w_box (fun _ => ?_) | refine w_al (fun _ => ?_))
  refine st_seq_cut (fun E U' M' => ∃ b, E = [(0, .int .i64 z), (2, .pointer (some ⟨b, 0, none⟩)), (3, .int .u64 (z.natAbs : Int))] ∧ U = U' ∧ M' = (b, .var (.agg #[.bool false, .slice none 0 0]), 24) :: M) ?_ ?_
  · repeat (first | refine run_S ?_ | refine w_box (fun _ => ?_) | refine w_al (fun _ => ?_))
    refine st_dec rfl (fun h2 => ?_) (fun h2 => ?_)
    · repeat (first | refine run_S ?_ | refine w_box (fun _ => ?_) | refine w_al (fun _ => ?_))
      rw [show IntKind.u64.wrap (0 - IntKind.u64.wrap z) = (z.natAbs : Int) by rw [wrap_u64, wrap_u64]; omega]
      exact sk_cut (E' := [(0, .int .i64 z), (2, .pointer (some ⟨_, 0, none⟩)), (3, .int .u64 (z.natAbs : Int))]) ⟨rfl, rfl, rfl, trivial⟩ ⟨_, rfl, rfl, rfl⟩
    · rw [show IntKind.u64.wrap z = (z.natAbs : Int) by rw [wrap_u64]; omega]
      repeat (first | refine run_S ?_ | refine w_box (fun _ => ?_) | refine w_al (fun _ => ?_))
      exact sk_cut (E' := [(0, .int .i64 z), (2, .pointer (some ⟨_, 0, none⟩)), (3, .int .u64 (z.natAbs : Int))]) ⟨rfl, rfl, rfl, trivial⟩ ⟨_, rfl, rfl, rfl⟩
  · rintro E U' M' ⟨b, rfl, rfl, rfl⟩
    have hm : z.natAbs < 18446744073709551616 := by omega
    have hs : z = sg (dec (z < 0)) z.natAbs := by
      rw [dec_eq]; unfold sg; split
      · rename_i h; have := of_decide_eq_true h; omega
      · rename_i h; have : ¬ z < 0 := fun h' => h (decide_eq_true h'); omega
    generalize hM : z.natAbs = m at *
    repeat (first | refine run_S ?_ | refine w_box (fun _ => ?_) | refine w_al (fun _ => ?_))
    have e1 : ((m : Int) % 4294967296) = ((m % 4294967296 : Nat) : Int) := by omega
    have e2 : ((m : Int) / 2 ^ 32) = ((m / 4294967296 : Nat) : Int) := by omega
    refine sl_bslice (vs := [dg (m % 4294967296), dg (m / 4294967296)]) sym rfl rfl ?_ rfl rfl rfl ?_ rfl rfl rfl rfl rfl rfl (fun bo => ?_)
    · rw [e1, e2]; rfl
    · intro v hv; simp at hv; rcases hv with rfl | rfl <;> rfl
    have hbd : Bd [m % 4294967296, m / 4294967296] := by
      intro d hd; simp only [List.mem_cons, List.not_mem_nil, or_false] at hd; omega
    have hrow : ∀ {U : UH} {M : MH}, Dig U ((bo, .arr [dg (m % 4294967296), dg (m / 4294967296)], TU32) :: M) (some ⟨bo, 0, none⟩) 2 2 [m % 4294967296, m / 4294967296] := fun {U M} =>
      (Own.row (b := bo) (r := [m % 4294967296, m / 4294967296]) (Nat.le_refl 2) rfl (by omega) hbd).dig (U := U) (M := M)
    repeat (first | refine run_S ?_ | refine w_box (fun _ => ?_) | refine w_al (fun _ => ?_))
    refine sl_call rfl rfl rfl rfl rfl rfl (fun _ => rsigned_ct (neg := dec (z < 0)) (hrow.app _) (by omega)) ?_
    rintro v U' D hU ⟨r, rfl, ho, rfl⟩
    refine sl_perm ?_ (perm2 (D := D))
    repeat (first | refine run_S ?_ | refine w_box (fun _ => ?_) | refine w_al (fun _ => ?_))
    refine sk_ret D sym rfl (.cons (.cell 1 rfl rfl rfl) .nil) (ULe.refl _) (.cons _ (.cons _ (List.Sublist.refl _))) (.inl rfl) ⟨r, rfl, ?_, rfl⟩
    rwa [val_two, show m / 4294967296 * 4294967296 + m % 4294967296 = m by omega, ← hs] at ho

theorem rNeg_ct {x : IV} {z : Int} (hx : x.rep U M z) (hn : x.n ≤ 1099511627776) :
    Ct Try.prog 54 [x.v] G U M fun v U' D => ∃ r : IV, v = r.v ∧ r.own D (-z) ∧ U = U' := by
  obtain ⟨neg, p, n, c⟩ := x
  obtain ⟨l, hd, rfl⟩ := hx
  simp only at hd hn
  refine ct_of_st Try.func54 rfl rfl rfl rfl ?_
  repeat (first | refine run_S ?_ | refine w_box (fun _ => ?_) | refine w_al (fun _ => ?_))
  refine sl_call rfl rfl rfl rfl rfl rfl (fun _ => rsigned_ct ((hd.up (ULe.refl _) (.cons _ (.cons _ (List.Sublist.refl _)))).app _) hn) ?_
  rintro v U' D hU ⟨r, rfl, ho, rfl⟩
  refine sl_perm ?_ (perm2 (D := D))
  repeat (first | refine run_S ?_ | refine w_box (fun _ => ?_) | refine w_al (fun _ => ?_))
  refine sk_ret D sym rfl (.cons (.cell 0 rfl rfl rfl) .nil) (ULe.refl _) (.cons _ (.cons _ (List.Sublist.refl _))) (.inl rfl) ⟨r, rfl, ?_, rfl⟩
  rwa [show sg (!neg) (val l) = -sg neg (val l) by cases neg <;> simp [sg]] at ho

theorem rAbs_ct {x : IV} {z : Int} (hx : x.rep U M z) (hn : x.n ≤ 1099511627776) :
    Ct Try.prog 9 [x.v] G U M fun v U' D => ∃ r : IV, v = r.v ∧ r.own D (z.natAbs : Int) ∧ U = U' := by
  obtain ⟨neg, p, n, c⟩ := x
  obtain ⟨l, hd, rfl⟩ := hx
  simp only at hd hn
  refine ct_of_st Try.func9 rfl rfl rfl rfl ?_
  repeat (first | refine run_S ?_ | refine w_box (fun _ => ?_) | refine w_al (fun _ => ?_))
  refine sl_call rfl rfl rfl rfl rfl rfl (fun _ => rsigned_ct ((hd.up (ULe.refl _) (.cons _ (.cons _ (List.Sublist.refl _)))).app _) hn) ?_
  rintro v U' D hU ⟨r, rfl, ho, rfl⟩
  refine sl_perm ?_ (perm2 (D := D))
  repeat (first | refine run_S ?_ | refine w_box (fun _ => ?_) | refine w_al (fun _ => ?_))
  refine sk_ret D sym rfl (.cons (.cell 0 rfl rfl rfl) .nil) (ULe.refl _) (.cons _ (.cons _ (List.Sublist.refl _))) (.inl rfl) ⟨r, rfl, ?_, rfl⟩
  rw [sg_natAbs]; exact ho

theorem rSign_ct {x : IV} {z : Int} (hx : x.rep U M z) (hn : x.n ≤ 1099511627776) :
    Ct Try.prog 24 [x.v] G U M fun v U' D => v = .int .i64 z.sign ∧ U = U' ∧ D = [] := by
  refine ct_of_st Try.func24 rfl rfl rfl rfl ?_
  repeat (first | refine run_S ?_ | refine w_box (fun _ => ?_) | refine w_al (fun _ => ?_))
  refine sl_call rfl rfl rfl rfl rfl rfl (fun _ => Norm_ct ((hx.up (ULe.refl _) (.cons _ (List.Sublist.refl _))).up (ULe.refl _) (List.sublist_append_right ..)) hn) ?_
  rintro v U' D hU ⟨r, rfl, ⟨l, ho, cl, hv, hneg⟩, rfl⟩
  refine sl_perm ?_ (perm1 (D := D))
  obtain ⟨neg, p, n, c⟩ := r
  simp only at ho hneg
  have hl := ho.len.1
  repeat (first | refine run_S ?_ | refine w_box (fun _ => ?_) | refine w_al (fun _ => ?_))
  refine st_eq rfl (fun h0 => ?_) (fun h0 => ?_)
  · repeat (first | refine run_S ?_ | refine w_box (fun _ => ?_) | refine w_al (fun _ => ?_))
    refine sk_ret [] sym rfl (.cons (.tmp rfl) .nil) (ULe.refl _) ((List.sublist_append_right D M).trans (List.Sublist.cons _ (.cons _ (List.Sublist.refl _)))) (.inl rfl) ⟨?_, rfl, rfl⟩
    have h0' : (n : Int) = 0 := h0
    have hl0 : l = [] := List.eq_nil_of_length_eq_zero (by omega)
    have hv0 : (0 : Nat) = z.natAbs := by rw [← hv, hl0]; rfl
    have hz0 : z = 0 := by omega
    rw [hz0]; rfl
  · have hz : z ≠ 0 := by
      intro h
      subst h
      have h0' : (n : Int) ≠ 0 := h0
      rw [cl.zero.1 hv] at hl
      simp only [List.length_nil] at hl
      omega
    repeat (first | refine run_S ?_ | refine w_box (fun _ => ?_) | refine w_al (fun _ => ?_))
    by_cases h1 : z < 0
    · rw [decide_eq_true h1] at hneg
      subst hneg
      repeat (first | refine run_S ?_ | refine w_box (fun _ => ?_) | refine w_al (fun _ => ?_))
      refine sk_ret [] sym rfl (.cons (.tmp rfl) .nil) (ULe.refl _) ((List.sublist_append_right D M).trans (List.Sublist.cons _ (.cons _ (List.Sublist.refl _)))) (.inl rfl) ⟨?_, rfl, rfl⟩
      rw [Int.sign_eq_neg_one_of_neg h1]; rfl
    · rw [decide_eq_false h1] at hneg
      subst hneg
      repeat (first | refine run_S ?_ | refine w_box (fun _ => ?_) | refine w_al (fun _ => ?_))
      refine sk_ret [] sym rfl (.cons (.tmp rfl) .nil) (ULe.refl _) ((List.sublist_append_right D M).trans (List.Sublist.cons _ (.cons _ (List.Sublist.refl _)))) (.inl rfl) ⟨?_, rfl, rfl⟩
      rw [Int.sign_eq_one_of_pos (by omega)]; rfl

end Go.Proofs.Ytlnmhjkagnfnaaa

/- Walks of the reference of layer 1, fourth part: comparison of digits. -/
namespace Go.Proofs.Ytlnmhjkagnfnaaa
open Go.Hp
variable {G : World} {U : UH} {M : MH}

theorem dec_iff {p q : Prop} {_ : Decidable p} {_ : Decidable q} (h : p ↔ q) : dec p = dec q := by
  rw [dec_eq, dec_eq]; exact decide_eq_decide.2 h

theorem below_ct {p p' : Option Addr} {n c n' c' : Nat} {a b : List Nat} (ha : Dig U M p n c a) (hb : Dig U M p' n' c' b) (ca : Cn a) (cb : Cn b) :
    Ct Try.prog 40 [.slice p n c, .slice p' n' c'] G U M fun v U' D => v = .bool (dec (val a < val b)) ∧ U = U' ∧ D = [] := by
  have hla := ha.len
  have hlb := hb.len
  have h1 := ha.cap; have h2 := ha.capm; have h3 := hb.cap; have h4 := hb.capm
  refine ct_of_st Try.func40 rfl rfl rfl rfl ?_
  try refine run_s ?_
  refine st_ne rfl (fun h0 => ?_) (fun h0 => ?_)
  · try refine run_s ?_
    refine sk_ret [] sym rfl (.cons (.tmp rfl) .nil) (ULe.refl _) (List.Sublist.refl _) (.inl rfl) ?_
    refine ⟨?_, rfl, rfl⟩
    show Value.bool (dec ((n : Int) < (n' : Int))) = _
    congr 1
    refine dec_iff ⟨fun h => Cn.lt_of_len ha.bd cb (by omega), fun h => ?_⟩
    rcases Nat.lt_or_ge n n' with hlt | hge
    · omega
    · have := Cn.lt_of_len hb.bd ca (by omega)
      omega
  · have h0' : n = n' := by omega
    subst h0'
    try refine run_s ?_
    refine st_loop (fun m E U' M' => ∃ k : Nat, k ≤ n ∧ a.drop k = b.drop k ∧ E = [(0, .slice p n c), (1, .slice p' n c'), (5, .int .i64 ((k : Int) - 1))] ∧ U = U' ∧ M = M' ∧ k = m) (E0 := [(0, .slice p n c), (1, .slice p' n c'), (5, .int .i64 ((n : Int) - 1))]) (n0 := n) ⟨rfl, rfl, rfl, trivial⟩ ⟨n, Nat.le_refl _, by rw [List.drop_of_length_le (by omega), List.drop_of_length_le (by omega)], rfl, rfl, rfl, rfl⟩ ?_
    rintro m E U' M' ⟨k, hk, hdr, rfl, rfl, rfl, rfl⟩
    try refine run_s ?_
    refine st_dec rfl (fun h5 => ?_) (fun h5 => ?_)
    · have hk1 : (k : Int) - 1 = ((k - 1 : Nat) : Int) := by omega
      obtain ⟨x, hx, hbx, hp, hcx⟩ := ha.get (k := k - 1) (by omega)
      obtain ⟨y, hy, hby, hp', hcy⟩ := hb.get (k := k - 1) (by omega)
      have hdr' : a.drop (k - 1 + 1) = b.drop (k - 1 + 1) := by rw [show k - 1 + 1 = k by omega]; exact hdr
      try refine run_s ?_
      refine st_draw [0, 1, 2, 3, 4, 5, 6, 7, 8] sym (by kernel_rfl) ?_
      try refine run_s ?_
      refine sl_y (yl_index1 sym rfl rfl rfl rfl rfl (hk1) (by first | omega | assumption) hp) rfl rfl rfl rfl ?_; refine sl_y (yl_loadD sym rfl rfl rfl rfl hcx) rfl rfl rfl rfl ?_
      try refine run_s ?_
      refine sl_y (yl_index1 sym rfl rfl rfl rfl rfl (hk1) (by first | omega | assumption) hp') rfl rfl rfl rfl ?_; refine sl_y (yl_loadD sym rfl rfl rfl rfl hcy) rfl rfl rfl rfl ?_
      try refine run_s ?_
      refine st_ne rfl (fun h6 => ?_) (fun h6 => ?_)
      · try refine run_s ?_
        refine st_draw [0, 1, 2, 3, 4, 5, 6, 7, 8, 9] sym (by kernel_rfl) ?_
        try refine run_s ?_
        refine sl_y (yl_index1 sym rfl rfl rfl rfl rfl (hk1) (by first | omega | assumption) hp) rfl rfl rfl rfl ?_; refine sl_y (yl_loadD sym rfl rfl rfl rfl hcx) rfl rfl rfl rfl ?_
        try refine run_s ?_
        refine sl_y (yl_index1 sym rfl rfl rfl rfl rfl (hk1) (by first | omega | assumption) hp') rfl rfl rfl rfl ?_; refine sl_y (yl_loadD sym rfl rfl rfl rfl hcy) rfl rfl rfl rfl ?_
        try refine run_s ?_
        refine sk_ret [] sym rfl (.cons (.tmp rfl) .nil) (ULe.refl _) (List.Sublist.refl _) (.inl rfl) ?_
        refine ⟨?_, rfl, rfl⟩
        show Value.bool (dec ((x : Int) < (y : Int))) = _
        congr 1
        refine dec_iff ⟨fun h => lt_of_digit ha.bd hb.bd hx hy (by omega) hdr' (by omega), fun h => ?_⟩
        rcases Nat.lt_or_ge x y with hlt | hge
        · omega
        · have := lt_of_digit hb.bd ha.bd hy hx (by omega) hdr'.symm (by omega)
          omega
      · have h7 : x = y := by omega
        subst h7
        try refine run_s ?_
        exact sk_again (E' := [(0, .slice p n c), (1, .slice p' n c'), (5, .int .i64 ((k : Int) - 1 - 1))]) (m := k - 1) ⟨rfl, rfl, rfl, trivial⟩ (by omega) ⟨k - 1, by omega, drop_step hx hy hdr', by rw [hk1], rfl, rfl, rfl⟩
    · have hk0 : k = 0 := by omega
      subst hk0
      try refine run_s ?_
      refine sk_ret [] sym rfl (.cons (.tmp rfl) .nil) (ULe.refl _) (List.Sublist.refl _) (.inl rfl) ?_
      refine ⟨?_, rfl, rfl⟩
      have hab : a = b := by simpa using hdr
      show Value.bool false = _
      rw [dec_false (by rw [hab]; omega)]

end Go.Proofs.Ytlnmhjkagnfnaaa

/- Walks of the reference of layer 1, fifth part: sums of digits. -/
namespace Go.Proofs.Ytlnmhjkagnfnaaa
open Go.Hp
variable {G : World} {U : UH} {M : MH}

theorem rplus_ct {p p' : Option Addr} {n c n' c' : Nat} {a b : List Nat} (ha : Dig U M p n c a) (hb : Dig U M p' n' c' b) (hn : n ≤ 1099511627776) (hn' : n' ≤ 1099511627776) :
    Ct Try.prog 39 [.slice p n c, .slice p' n' c'] G U M fun v U' D => ∃ q k cc l, v = .slice q k cc ∧ Own D q k cc l ∧ val l = val a + val b ∧ k = max n n' + 1 ∧ U = U' := by
  have hla := ha.len
  have hlb := hb.len
  have h3 := ha.cap; have h4 := ha.capm; have h5 := hb.cap; have h6 := hb.capm
  refine ct_of_st Try.func39 rfl rfl rfl rfl ?_
  refine st_seq ?_
  try refine run_o ?_
  refine st_seq ?_
  try refine run_o ?_
  refine st_seq ?_
  try refine run_o ?_
  refine st_seq_cut (fun E U' M' => ∃ (cy : Nat) (r : List Nat) (q : Option Addr) (cc : Nat) (D X : MH), cy ≤ 1 ∧ Own D q (max n n') cc r ∧ val r + 4294967296 ^ (max n n') * cy = val a + val b ∧
      E = [(5, .slice q (max n n') cc), (6, .int .u64 (cy : Int))] ∧ U = U' ∧ M' = D ++ X ∧ M.Sublist X) ?_ ?_
  · try refine run_s ?_
    refine st_loop (fun m E U' M' => ∃ (i cy : Nat) (r : List Nat) (q : Option Addr) (cc : Nat) (D X : MH), i ≤ max n n' ∧ cy ≤ 1 ∧ Own D q i cc r ∧ val r + 4294967296 ^ i * cy = val (a.take i) + val (b.take i) ∧
        E = [(7, .int .i64 (i : Int)), (5, .slice q i cc), (6, .int .u64 (cy : Int)), (0, .slice p n c), (1, .slice p' n' c')] ∧ U = U' ∧ M' = D ++ X ∧ M.Sublist X ∧ m = max n n' - i) (n0 := max n n')
      (E0 := [(7, .int .i64 ((0 : Nat) : Int)), (5, .slice none 0 0), (6, .int .u64 ((0 : Nat) : Int)), (0, .slice p n c), (1, .slice p' n' c')]) ⟨rfl, rfl, rfl, rfl, rfl, trivial⟩
      ⟨0, 0, [], none, 0, [], M, by omega, by omega, Own.nil, by simp [val], rfl, rfl, rfl, List.Sublist.refl _, rfl⟩ ?_
    rintro m E U' M' ⟨i, cy, r, q, cc, D, X, hi, hcy, ho, hv, rfl, rfl, rfl, hX, rfl⟩
    refine st_seq_cut (fun E U' M' => i < max n n' ∧ E = [(7, .int .i64 (i : Int)), (5, .slice q i cc), (6, .int .u64 (cy : Int)), (0, .slice p n c), (1, .slice p' n' c')] ∧ U = U' ∧ D ++ X = M') ?_ ?_
    · try refine run_s ?_
      refine sl_gdec rfl rfl (fun h0 => ?_) (fun h0 => ?_)
      · try refine run_s ?_
        exact sk_cut (E' := [(7, .int .i64 (i : Int)), (5, .slice q i cc), (6, .int .u64 (cy : Int)), (0, .slice p n c), (1, .slice p' n' c')]) ⟨rfl, rfl, rfl, rfl, rfl, trivial⟩ ⟨by omega, rfl, rfl, rfl⟩
      · try refine run_s ?_
        refine st_dec rfl (fun h1 => ?_) (fun h1 => ?_)
        · try refine run_s ?_
          exact sk_cut (E' := [(7, .int .i64 (i : Int)), (5, .slice q i cc), (6, .int .u64 (cy : Int)), (0, .slice p n c), (1, .slice p' n' c')]) ⟨rfl, rfl, rfl, rfl, rfl, trivial⟩ ⟨by omega, rfl, rfl, rfl⟩
        · have hi' : i = max n n' := by omega
          subst hi'
          try refine run_s ?_
          exact sk_cut (E' := [(5, .slice q (max n n') cc), (6, .int .u64 (cy : Int))]) ⟨rfl, rfl, trivial⟩ ⟨cy, r, q, cc, D, X, hcy, ho, by rw [hv, take_all (by omega), take_all (by omega)], rfl, rfl, rfl, hX⟩
    rintro E U' M' ⟨hlt, rfl, rfl, rfl⟩
    try refine run_o ?_
    refine st_seq ?_
    refine st_block ?_
    refine st_seq ?_
    try refine run_o ?_
    refine st_seq_cut (fun E U' M' => ∃ x : Nat, x < 4294967296 ∧ val (a.take (i + 1)) = val (a.take i) + 4294967296 ^ i * x ∧ E = [(8, .int .u64 ((cy + x : Nat) : Int)), (7, .int .i64 (i : Int)), (5, .slice q i cc), (6, .int .u64 (cy : Int)), (0, .slice p n c), (1, .slice p' n' c')] ∧ U = U' ∧ D ++ X = M') ?_ ?_
    · try refine run_s ?_
      refine st_dec rfl (fun h0 => ?_) (fun h0 => ?_)
      · obtain ⟨x, hx, hbx, hp, hcx⟩ := (ha.up (U' := U) (M' := D ++ X) (ULe.refl _) (hX.trans (List.sublist_append_right ..))).get (k := i) (by omega)
        try refine run_s ?_
        refine sl_y (yl_index1 sym rfl rfl rfl rfl rfl rfl (by omega) hp) rfl rfl rfl rfl ?_; refine sl_y (yl_loadD sym rfl rfl rfl rfl hcx) rfl rfl rfl rfl ?_
        try refine run_s ?_
        exact sk_cut (E' := [(8, .int .u64 ((cy + x : Nat) : Int)), (7, .int .i64 (i : Int)), (5, .slice q i cc), (6, .int .u64 (cy : Int)), (0, .slice p n c), (1, .slice p' n' c')]) ⟨rfl, rfl, rfl, rfl, rfl, rfl, trivial⟩ ⟨x, hbx, val_take_succ hx, rfl, rfl, rfl⟩
      · try refine run_s ?_
        exact sk_cut (E' := [(8, .int .u64 ((cy + 0 : Nat) : Int)), (7, .int .i64 (i : Int)), (5, .slice q i cc), (6, .int .u64 (cy : Int)), (0, .slice p n c), (1, .slice p' n' c')]) ⟨rfl, rfl, rfl, rfl, rfl, rfl, trivial⟩ ⟨0, by omega, take_more (by omega), rfl, rfl, rfl⟩
    rintro E U' M' ⟨x, hbx, hvx, rfl, rfl, rfl⟩
    refine st_seq_cut (fun E U' M' => ∃ y : Nat, y < 4294967296 ∧ val (b.take (i + 1)) = val (b.take i) + 4294967296 ^ i * y ∧ E = [(8, .int .u64 ((cy + x + y : Nat) : Int)), (7, .int .i64 (i : Int)), (5, .slice q i cc), (6, .int .u64 (cy : Int)), (0, .slice p n c), (1, .slice p' n' c')] ∧ U = U' ∧ D ++ X = M') ?_ ?_
    · try refine run_s ?_
      refine st_dec rfl (fun h0 => ?_) (fun h0 => ?_)
      · obtain ⟨y, hy, hby, hp, hcy'⟩ := (hb.up (U' := U) (M' := D ++ X) (ULe.refl _) (hX.trans (List.sublist_append_right ..))).get (k := i) (by omega)
        try refine run_s ?_
        refine sl_y (yl_index1 sym rfl rfl rfl rfl rfl rfl (by omega) hp) rfl rfl rfl rfl ?_; refine sl_y (yl_loadD sym rfl rfl rfl rfl hcy') rfl rfl rfl rfl ?_
        try refine run_s ?_
        exact sk_cut (E' := [(8, .int .u64 ((cy + x + y : Nat) : Int)), (7, .int .i64 (i : Int)), (5, .slice q i cc), (6, .int .u64 (cy : Int)), (0, .slice p n c), (1, .slice p' n' c')]) ⟨rfl, rfl, rfl, rfl, rfl, rfl, trivial⟩ ⟨y, hby, val_take_succ hy, rfl, rfl, rfl⟩
      · try refine run_s ?_
        exact sk_cut (E' := [(8, .int .u64 ((cy + x + 0 : Nat) : Int)), (7, .int .i64 (i : Int)), (5, .slice q i cc), (6, .int .u64 (cy : Int)), (0, .slice p n c), (1, .slice p' n' c')]) ⟨rfl, rfl, rfl, rfl, rfl, rfl, trivial⟩ ⟨0, by omega, take_more (by omega), rfl, rfl, rfl⟩
    rintro E U' M' ⟨y, hby, hvy, rfl, rfl, rfl⟩
    generalize hs : cy + x + y = s at *
    try refine run_s ?_
    rw [show (s : Int) % 4294967296 = ((s % 4294967296 : Nat) : Int) by omega]
    refine sl_bslice (vs := [dg (s % 4294967296)]) sym rfl rfl rfl rfl rfl rfl (by intro v hv; simp at hv; subst hv; rfl) rfl rfl rfl rfl rfl rfl (fun bo => ?_)
    have hone : ∀ {U : UH} {M : MH}, Dig U ((bo, .arr [dg (s % 4294967296)], TU32) :: M) (some ⟨bo, 0, none⟩) 1 1 [s % 4294967296] := fun {U M} =>
      (Own.row (b := bo) (r := [s % 4294967296]) (Nat.le_refl 1) rfl (by omega) (by intro d hd; simp at hd; omega)).dig (U := U) (M := M)
    refine sl_perm ?_ (perm1 (D := D)).symm
    have hq2 : Dig U (D ++ (bo, .arr [dg (s % 4294967296)], TU32) :: X) (some ⟨bo, 0, none⟩) 1 1 [s % 4294967296] := hone.app D
    refine sl_appendD (D := D) (X := (bo, .arr [dg (s % 4294967296)], TU32) :: X) (m := 1) sym rfl rfl rfl rfl rfl ho rfl hq2 (by omega) rfl rfl rfl rfl (fun q2 cc2 D2 ho2 => ?_)
    try refine run_s ?_
    refine sk_again (E' := [(7, .int .i64 ((i : Int) + 1)), (5, .slice q2 (i + 1) cc2), (6, .int .u64 ((s : Int) / 2 ^ 32)), (0, .slice p n c), (1, .slice p' n' c')]) (m := max n n' - (i + 1)) ⟨rfl, rfl, rfl, rfl, rfl, trivial⟩ (by omega)
      ⟨i + 1, s / 4294967296, r ++ [s % 4294967296], q2, cc2, D2, (bo, .arr [dg (s % 4294967296)], TU32) :: X, by omega, by omega, ho2, ?_, by rw [show ((s / 4294967296 : Nat) : Int) = (s : Int) / 2 ^ 32 by omega]; rfl, rfl, rfl, hX.cons _, rfl⟩
    have e5 : 4294967296 ^ i * (s % 4294967296 + 4294967296 * (s / 4294967296)) = 4294967296 ^ i * (cy + x + y) := by rw [hs, Nat.mod_add_div]
    rw [val_snoc, ho.len.1, hvx, hvy, Nat.pow_succ]
    simp only [Nat.mul_add, Nat.mul_assoc] at *
    omega
  · rintro E U' M' ⟨cy, r, q, cc, D, X, hcy, ho, hv, rfl, rfl, rfl, hX⟩
    repeat (first | refine run_S ?_ | refine w_box (fun _ => ?_) | refine w_al (fun _ => ?_))
    refine sl_bslice (vs := [dg cy]) sym rfl rfl rfl rfl rfl rfl (by intro v hv; simp at hv; subst hv; rfl) rfl rfl rfl rfl rfl rfl (fun bo => ?_)
    have hone : ∀ {U : UH} {M : MH}, Dig U ((bo, .arr [dg cy], TU32) :: M) (some ⟨bo, 0, none⟩) 1 1 [cy] := fun {U M} =>
      (Own.row (b := bo) (r := [cy]) (Nat.le_refl 1) rfl (by omega) (by intro d hd; simp at hd; omega)).dig (U := U) (M := M)
    refine sl_perm ?_ (perm1 (D := D)).symm
    have hq2 : Dig U (D ++ (bo, .arr [dg cy], TU32) :: X) (some ⟨bo, 0, none⟩) 1 1 [cy] := hone.app D
    refine sl_appendD (D := D) (X := (bo, .arr [dg cy], TU32) :: X) (m := 1) sym rfl rfl rfl rfl rfl ho rfl hq2 (by omega) rfl rfl rfl rfl (fun q2 cc2 D2 ho2 => ?_)
    repeat (first | refine run_S ?_ | refine w_box (fun _ => ?_) | refine w_al (fun _ => ?_))
    refine sk_ret D2 sym rfl (.cons (.tmp rfl) .nil) (ULe.refl _) (List.Sublist.append (List.Sublist.refl D2) (hX.cons _)) (.inl rfl) ⟨q2, _, cc2, r ++ [cy], rfl, ho2, ?_, rfl, rfl⟩
    rw [val_snoc, ho.len.1, hv]

end Go.Proofs.Ytlnmhjkagnfnaaa

/- Walks of the reference of layer 1, sixth part: differences of digits. -/
namespace Go.Proofs.Ytlnmhjkagnfnaaa
open Go.Hp
variable {G : World} {U : UH} {M : MH}

theorem rminus_ct {p p' : Option Addr} {n c n' c' : Nat} {a b : List Nat} (ha : Dig U M p n c a) (hb : Dig U M p' n' c' b) (hn : n ≤ 1099511627776) (hle : n' ≤ n) (hval : val b ≤ val a) :
    Ct Try.prog 41 [.slice p n c, .slice p' n' c'] G U M fun v U' D => ∃ q k cc l, v = .slice q k cc ∧ Own D q k cc l ∧ val l = val a - val b ∧ k = n ∧ U = U' := by
  have hla := ha.len
  have hlb := hb.len
  have h3 := ha.cap; have h4 := ha.capm; have h5 := hb.cap; have h6 := hb.capm
  refine ct_of_st Try.func41 rfl rfl rfl rfl ?_
  try refine run_s ?_
  refine st_loop (fun m E U' M' => ∃ (i bw : Nat) (r : List Nat) (q : Option Addr) (cc : Nat) (D X : MH), i ≤ n ∧ bw ≤ 1 ∧ Own D q i cc r ∧ val r + val (b.take i) = val (a.take i) + 4294967296 ^ i * bw ∧
      E = [(7, .int .i64 (i : Int)), (5, .slice q i cc), (6, .int .u64 (bw : Int)), (0, .slice p n c), (1, .slice p' n' c')] ∧ U = U' ∧ M' = D ++ X ∧ M.Sublist X ∧ m = n - i) (n0 := n)
    (E0 := [(7, .int .i64 ((0 : Nat) : Int)), (5, .slice none 0 0), (6, .int .u64 ((0 : Nat) : Int)), (0, .slice p n c), (1, .slice p' n' c')]) ⟨rfl, rfl, rfl, rfl, rfl, trivial⟩
    ⟨0, 0, [], none, 0, [], M, by omega, by omega, Own.nil, by simp [val], rfl, rfl, rfl, List.Sublist.refl _, rfl⟩ ?_
  rintro m E U' M' ⟨i, bw, r, q, cc, D, X, hi, hbw, ho, hv, rfl, rfl, rfl, hX, rfl⟩
  try refine run_s ?_
  refine st_dec rfl (fun h0 => ?_) (fun h0 => ?_)
  · obtain ⟨x, hx, hbx, hpx, hcx⟩ := (ha.up (U' := U) (M' := D ++ X) (ULe.refl _) (hX.trans (List.sublist_append_right ..))).get (k := i) (by omega)
    try refine run_o ?_
    refine st_seq ?_
    refine st_block ?_
    refine st_seq ?_
    try refine run_o ?_
    refine st_seq_cut (fun E U' M' => ∃ y : Nat, y < 4294967296 ∧ val (b.take (i + 1)) = val (b.take i) + 4294967296 ^ i * y ∧ E = [(8, .int .u64 ((bw + y : Nat) : Int)), (7, .int .i64 (i : Int)), (5, .slice q i cc), (0, .slice p n c), (1, .slice p' n' c')] ∧ U = U' ∧ D ++ X = M') ?_ ?_
    · try refine run_s ?_
      refine st_dec rfl (fun h0 => ?_) (fun h0 => ?_)
      · obtain ⟨y, hy, hby, hp, hcy'⟩ := (hb.up (U' := U) (M' := D ++ X) (ULe.refl _) (hX.trans (List.sublist_append_right ..))).get (k := i) (by omega)
        try refine run_s ?_
        refine sl_y (yl_index1 sym rfl rfl rfl rfl rfl rfl (by omega) hp) rfl rfl rfl rfl ?_; refine sl_y (yl_loadD sym rfl rfl rfl rfl hcy') rfl rfl rfl rfl ?_
        try refine run_s ?_
        exact sk_cut (E' := [(8, .int .u64 ((bw + y : Nat) : Int)), (7, .int .i64 (i : Int)), (5, .slice q i cc), (0, .slice p n c), (1, .slice p' n' c')]) ⟨rfl, rfl, rfl, rfl, rfl, trivial⟩ ⟨y, hby, val_take_succ hy, rfl, rfl, rfl⟩
      · try refine run_s ?_
        exact sk_cut (E' := [(8, .int .u64 ((bw + 0 : Nat) : Int)), (7, .int .i64 (i : Int)), (5, .slice q i cc), (0, .slice p n c), (1, .slice p' n' c')]) ⟨rfl, rfl, rfl, rfl, rfl, trivial⟩ ⟨0, by omega, take_more (by omega), rfl, rfl, rfl⟩
    rintro E U' M' ⟨y, hby, hvy, rfl, rfl, rfl⟩
    generalize hs : bw + y = s at *
    refine st_seq ?_
    try refine run_o ?_
    refine st_seq ?_
    try refine run_o ?_
    refine sl_y (yl_index1 sym rfl rfl rfl rfl rfl rfl (by omega) hpx) rfl rfl rfl rfl ?_; refine sl_y (yl_loadD sym rfl rfl rfl rfl hcx) rfl rfl rfl rfl ?_
    try refine run_o ?_
    refine st_seq_cut (fun E U' M' => ∃ t bw' : Nat, bw' ≤ 1 ∧ t = x + 4294967296 * bw' ∧ s ≤ t ∧ t < s + 4294967296 ∧ E = [(9, .int .u64 (t : Int)), (6, .int .u64 (bw' : Int)), (8, .int .u64 (s : Int)), (7, .int .i64 (i : Int)), (5, .slice q i cc), (0, .slice p n c), (1, .slice p' n' c')] ∧ U = U' ∧ D ++ X = M') ?_ ?_
    · try refine run_s ?_
      refine st_dec rfl (fun h1 => ?_) (fun h1 => ?_)
      · try refine run_s ?_
        exact sk_cut (E' := [(9, .int .u64 ((x : Int) + 4294967296)), (6, .int .u64 ((1 : Nat) : Int)), (8, .int .u64 (s : Int)), (7, .int .i64 (i : Int)), (5, .slice q i cc), (0, .slice p n c), (1, .slice p' n' c')]) ⟨rfl, rfl, rfl, rfl, rfl, rfl, rfl, trivial⟩ ⟨x + 4294967296, 1, by omega, by omega, by omega, by omega, rfl, rfl, rfl⟩
      · try refine run_s ?_
        exact sk_cut (E' := [(9, .int .u64 (x : Int)), (6, .int .u64 ((0 : Nat) : Int)), (8, .int .u64 (s : Int)), (7, .int .i64 (i : Int)), (5, .slice q i cc), (0, .slice p n c), (1, .slice p' n' c')]) ⟨rfl, rfl, rfl, rfl, rfl, rfl, rfl, trivial⟩ ⟨x, 0, by omega, by omega, by omega, by omega, rfl, rfl, rfl⟩
    rintro E U' M' ⟨t, bw', hb1, ht, hst, hts, rfl, rfl, rfl⟩
    obtain ⟨d, hd⟩ : ∃ d, t = s + d := ⟨t - s, by omega⟩
    have hdi : (t : Int) - (s : Int) = (d : Int) := by omega
    have hdb : d < 4294967296 := by omega
    have ht64 : t < 18446744073709551616 := by omega
    try refine run_s ?_
    try rw [hdi]
    refine sl_bslice (vs := [dg d]) sym rfl rfl rfl rfl rfl rfl (by intro v hv; simp at hv; subst hv; rfl) rfl rfl rfl rfl rfl rfl (fun bo => ?_)
    have hone : ∀ {U : UH} {M : MH}, Dig U ((bo, .arr [dg d], TU32) :: M) (some ⟨bo, 0, none⟩) 1 1 [d] := fun {U M} =>
      (Own.row (b := bo) (r := [d]) (Nat.le_refl 1) rfl (by omega) (by intro d hd; simp at hd; omega)).dig (U := U) (M := M)
    refine sl_perm ?_ (perm1 (D := D)).symm
    have hq2 : Dig U (D ++ (bo, .arr [dg d], TU32) :: X) (some ⟨bo, 0, none⟩) 1 1 [d] := hone.app D
    refine sl_appendD (D := D) (X := (bo, .arr [dg d], TU32) :: X) (m := 1) sym rfl rfl rfl rfl rfl ho rfl hq2 (by omega) rfl rfl rfl rfl (fun q2 cc2 D2 ho2 => ?_)
    try refine run_s ?_
    refine sk_again (E' := [(7, .int .i64 ((i : Int) + 1)), (5, .slice q2 (i + 1) cc2), (6, .int .u64 (bw' : Int)), (0, .slice p n c), (1, .slice p' n' c')]) (m := n - (i + 1)) ⟨rfl, rfl, rfl, rfl, rfl, trivial⟩ (by omega)
      ⟨i + 1, bw', r ++ [d], q2, cc2, D2, (bo, .arr [dg d], TU32) :: X, by omega, hb1, ho2, ?_, rfl, rfl, rfl, hX.cons _, rfl⟩
    have e5 : 4294967296 ^ i * (bw + y + d) = 4294967296 ^ i * (x + 4294967296 * bw') := by rw [hs, ← hd, ht]
    rw [val_snoc, ho.len.1, val_take_succ hx, hvy, Nat.pow_succ]
    simp only [Nat.mul_add, Nat.mul_assoc] at *
    omega
  · have hi' : i = n := by omega
    subst hi'
    try refine run_s ?_
    refine sk_ret D sym rfl (.cons (.tmp rfl) .nil) (ULe.refl _) (List.Sublist.append (List.Sublist.refl D) hX) (.inl rfl) ⟨q, i, cc, r, rfl, ho, ?_, rfl, rfl⟩
    rw [take_all (by omega), take_all (by omega)] at hv
    have hrl := val_lt (ho.dig (U := U) (M := M)).bd
    rw [ho.len.1] at hrl
    have : bw = 0 := by
      rcases Nat.eq_zero_or_pos bw with h | h
      · exact h
      · have : bw = 1 := by omega
        subst this
        omega
    subst this
    omega

end Go.Proofs.Ytlnmhjkagnfnaaa

/- Walks of the reference of layer 1, seventh part: sums of integers. -/
namespace Go.Proofs.Ytlnmhjkagnfnaaa
open Go.Hp
variable {G : World} {U : UH} {M : MH}

theorem rAdd_ct {x y : IV} {z u : Int} (hx : x.rep U M z) (hn : x.n ≤ 549755813888) (hy : y.rep U M u) (hn' : y.n ≤ 549755813888) :
    Ct Try.prog 14 [x.v, y.v] G U M fun v U' D => ∃ r : IV, v = r.v ∧ r.own D (z + u) ∧ U = U' := by
  refine ct_of_st Try.func14 rfl rfl rfl rfl ?_
  repeat (first | refine run_S ?_ | refine w_box (fun _ => ?_) | refine w_al (fun _ => ?_))
  refine st_draw [0, 2, 1, 3, 4, 5, 6, 7] sym (by kernel_rfl) ?_
  repeat (first | refine run_S ?_ | refine w_box (fun _ => ?_) | refine w_al (fun _ => ?_))
  refine sl_call rfl rfl rfl rfl rfl rfl (fun _ => Norm_ct ((hx.up (ULe.refl _) (.cons _ (.cons _ (.cons _ (List.Sublist.refl _))))).up (ULe.refl _) (List.sublist_append_right ..)) (by omega)) ?_
  rintro v U' D1 hU ⟨⟨neg1, p1, n1, c1⟩, rfl, h1, rfl⟩
  refine sl_perm ?_ (perm3 (D := D1))
  repeat (first | refine run_S ?_ | refine w_box (fun _ => ?_) | refine w_al (fun _ => ?_))
  refine sl_call rfl rfl rfl rfl rfl rfl (fun _ => Norm_ct (((hy.up (ULe.refl _) (List.sublist_append_right D1 _)).up (ULe.refl _) (.cons _ (.cons _ (.cons _ (List.Sublist.refl _))))).up (ULe.refl _) (List.sublist_append_right ..)) (by omega)) ?_
  rintro v U' D2 hU ⟨⟨neg2, p2, n2, c2⟩, rfl, h2, rfl⟩
  refine sl_perm ?_ (perm3 (D := D2))
  repeat (first | refine run_S ?_ | refine w_box (fun _ => ?_) | refine w_al (fun _ => ?_))
  obtain ⟨l1, o1, k1, v1, s1⟩ := h1
  obtain ⟨l2, o2, k2, v2, s2⟩ := h2
  simp only at o1 o2 s1 s2
  have hs1 : z = sg neg1 (val l1) := by rw [v1, s1]; unfold sg; by_cases h : z < 0 <;> simp [h] <;> omega
  have hs2 : u = sg neg2 (val l2) := by rw [v2, s2]; unfold sg; by_cases h : u < 0 <;> simp [h] <;> omega
  have b1 : Bd l1 := k1.bd
  have g1 := o1.len
  have g2 := o2.len
  have hn1 : n1 ≤ 549755813888 := by
    obtain ⟨l, hd, hz⟩ := hx
    have e := k1.len_le hd.bd (by rw [v1, hz, sg_natAbs]; exact Nat.le_refl _)
    have := hd.len
    omega
  have hn2 : n2 ≤ 549755813888 := by
    obtain ⟨l, hd, hz⟩ := hy
    have e := k2.len_le hd.bd (by rw [v2, hz, sg_natAbs]; exact Nat.le_refl _)
    have := hd.len
    omega
  rw [hs1, hs2]
  clear s1 s2 hs1 hs2
  by_cases he : neg1 = neg2
  · subst he
    rw [show ((IV.mk neg1 p1 n1 c1).neg == (IV.mk neg1 p2 n2 c2).neg) = true by cases neg1 <;> rfl]
    repeat (first | refine run_S ?_ | refine w_box (fun _ => ?_) | refine w_al (fun _ => ?_))
    refine st_draw [0, 1, 2, 3, 4, 5, 6, 7, 8] sym (by kernel_rfl) ?_
    repeat (first | refine run_S ?_ | refine w_box (fun _ => ?_) | refine w_al (fun _ => ?_))
    refine sl_call rfl rfl rfl rfl rfl rfl (fun _ => rplus_ct (((((o1.dig (M := M)).app D2).up (ULe.refl _) (.cons _ (.cons _ (.cons _ (.cons _ (.cons _ (List.Sublist.refl _)))))))).app _) (((o2.dig (M := D1 ++ M)).up (ULe.refl _) (.cons _ (.cons _ (.cons _ (.cons _ (.cons _ (List.Sublist.refl _))))))).app _) (Nat.le_trans hn1 (by decide)) (Nat.le_trans hn2 (by decide))) ?_
    rintro v U' D3 hU ⟨q, k, cc, l3, rfl, ho, hv, hk, rfl⟩
    repeat (first | refine run_S ?_ | refine w_box (fun _ => ?_) | refine w_al (fun _ => ?_))
    refine sl_call rfl rfl rfl rfl rfl rfl (fun _ => rsigned_ct (ho.dig.app _) (by have hk2 : k = max n1 n2 + 1 := hk; omega)) ?_
    rintro v U' D4 hU ⟨r, rfl, hr, rfl⟩
    refine sl_perm ?_ ((List.Perm.append_left D4 (perm5 (D := D3))).trans (perm5 (D := D4)))
    repeat (first | refine run_S ?_ | refine w_box (fun _ => ?_) | refine w_al (fun _ => ?_))
    refine sk_ret D4 sym rfl (.cons (.cell 2 rfl rfl rfl) .nil) (ULe.refl _) (.cons _ (.cons _ (.cons _ (.cons _ (.cons _ (List.Sublist.append (List.Sublist.refl D4) (((List.sublist_append_right D1 M).trans (List.sublist_append_right D2 _)).trans (List.sublist_append_right D3 _)))))))) (.inl rfl) ⟨r, rfl, ?_, rfl⟩
    rw [hv] at hr
    rwa [show sg neg1 (val l1) + sg neg1 (val l2) = sg neg1 (val l1 + val l2) by cases neg1 <;> simp [sg] <;> omega]
  · rw [show ((IV.mk neg1 p1 n1 c1).neg == (IV.mk neg2 p2 n2 c2).neg) = false by cases neg1 <;> cases neg2 <;> simp at he ⊢]
    repeat (first | refine run_S ?_ | refine w_box (fun _ => ?_) | refine w_al (fun _ => ?_))
    refine sl_call rfl rfl rfl rfl rfl rfl (fun _ => below_ct (((((o1.dig (M := M)).app D2).up (ULe.refl _) (.cons _ (.cons _ (.cons _ (.cons _ (.cons _ (List.Sublist.refl _)))))))).app _) (((o2.dig (M := D1 ++ M)).up (ULe.refl _) (.cons _ (.cons _ (.cons _ (.cons _ (.cons _ (List.Sublist.refl _))))))).app _) k1 k2) ?_
    rintro v U' D3 hU ⟨rfl, rfl, rfl⟩
    repeat (first | refine run_S ?_ | refine w_box (fun _ => ?_) | refine w_al (fun _ => ?_))
    refine st_dec rfl (fun h0 => ?_) (fun h0 => ?_)
    · have hle := k1.len_le k2.bd (Nat.le_of_lt h0)
      repeat (first | refine run_S ?_ | refine w_box (fun _ => ?_) | refine w_al (fun _ => ?_))
      refine st_draw [0, 1, 2, 3, 4, 5, 6, 7, 8] sym (by kernel_rfl) ?_
      repeat (first | refine run_S ?_ | refine w_box (fun _ => ?_) | refine w_al (fun _ => ?_))
      refine sl_call rfl rfl rfl rfl rfl rfl (fun _ => rminus_ct (((o2.dig (M := D1 ++ M)).up (ULe.refl _) (.cons _ (.cons _ (.cons _ (.cons _ (.cons _ (List.Sublist.refl _))))))).app _) (((((o1.dig (M := M)).app D2).up (ULe.refl _) (.cons _ (.cons _ (.cons _ (.cons _ (.cons _ (List.Sublist.refl _)))))))).app _) (Nat.le_trans hn2 (by decide)) (by show n1 ≤ n2; omega) (Nat.le_of_lt h0)) ?_
      rintro v U' D3 hU ⟨q, k, cc, l3, rfl, ho, hv, hk, rfl⟩
      repeat (first | refine run_S ?_ | refine w_box (fun _ => ?_) | refine w_al (fun _ => ?_))
      refine sl_call rfl rfl rfl rfl rfl rfl (fun _ => rsigned_ct (ho.dig.app _) (by have hk2 : k = n2 := hk; omega)) ?_
      rintro v U' D4 hU ⟨r, rfl, hr, rfl⟩
      refine sl_perm ?_ ((List.Perm.append_left D4 (perm5 (D := D3))).trans (perm5 (D := D4)))
      repeat (first | refine run_S ?_ | refine w_box (fun _ => ?_) | refine w_al (fun _ => ?_))
      refine sk_ret D4 sym rfl (.cons (.cell 2 rfl rfl rfl) .nil) (ULe.refl _) (.cons _ (.cons _ (.cons _ (.cons _ (.cons _ (List.Sublist.append (List.Sublist.refl D4) (((List.sublist_append_right D1 M).trans (List.sublist_append_right D2 _)).trans (List.sublist_append_right D3 _)))))))) (.inl rfl) ⟨r, rfl, ?_, rfl⟩
      rw [hv] at hr
      rwa [show sg neg1 (val l1) + sg neg2 (val l2) = sg neg2 (val l2 - val l1) by cases neg1 <;> cases neg2 <;> simp [sg] at he ⊢ <;> omega]
    · have hle := k2.len_le k1.bd (by omega)
      repeat (first | refine run_S ?_ | refine w_box (fun _ => ?_) | refine w_al (fun _ => ?_))
      refine st_draw [0, 1, 2, 3, 4, 5, 6, 7, 8] sym (by kernel_rfl) ?_
      repeat (first | refine run_S ?_ | refine w_box (fun _ => ?_) | refine w_al (fun _ => ?_))
      refine sl_call rfl rfl rfl rfl rfl rfl (fun _ => rminus_ct (((((o1.dig (M := M)).app D2).up (ULe.refl _) (.cons _ (.cons _ (.cons _ (.cons _ (.cons _ (List.Sublist.refl _)))))))).app _) (((o2.dig (M := D1 ++ M)).up (ULe.refl _) (.cons _ (.cons _ (.cons _ (.cons _ (.cons _ (List.Sublist.refl _))))))).app _) (Nat.le_trans hn1 (by decide)) (by show n2 ≤ n1; omega) (by omega)) ?_
      rintro v U' D3 hU ⟨q, k, cc, l3, rfl, ho, hv, hk, rfl⟩
      repeat (first | refine run_S ?_ | refine w_box (fun _ => ?_) | refine w_al (fun _ => ?_))
      refine sl_call rfl rfl rfl rfl rfl rfl (fun _ => rsigned_ct (ho.dig.app _) (by have hk2 : k = n1 := hk; omega)) ?_
      rintro v U' D4 hU ⟨r, rfl, hr, rfl⟩
      refine sl_perm ?_ ((List.Perm.append_left D4 (perm5 (D := D3))).trans (perm5 (D := D4)))
      repeat (first | refine run_S ?_ | refine w_box (fun _ => ?_) | refine w_al (fun _ => ?_))
      refine sk_ret D4 sym rfl (.cons (.cell 2 rfl rfl rfl) .nil) (ULe.refl _) (.cons _ (.cons _ (.cons _ (.cons _ (.cons _ (List.Sublist.append (List.Sublist.refl D4) (((List.sublist_append_right D1 M).trans (List.sublist_append_right D2 _)).trans (List.sublist_append_right D3 _)))))))) (.inl rfl) ⟨r, rfl, ?_, rfl⟩
      rw [hv] at hr
      rwa [show sg neg1 (val l1) + sg neg2 (val l2) = sg neg1 (val l1 - val l2) by cases neg1 <;> cases neg2 <;> simp [sg] at he ⊢ <;> omega]

end Go.Proofs.Ytlnmhjkagnfnaaa

/- Walks of the reference of layer 1: differences, comparisons. -/
namespace Go.Proofs.Ytlnmhjkagnfnaaa
open Go.Hp
variable {G : World} {U : UH} {M : MH}

theorem rSub_ct {x y : IV} {z u : Int} (hx : x.rep U M z) (hn : x.n ≤ 549755813888) (hy : y.rep U M u) (hn' : y.n ≤ 549755813888) :
    Ct Try.prog 25 [x.v, y.v] G U M fun v U' D => ∃ r : IV, v = r.v ∧ r.own D (z - u) ∧ U = U' := by
  have hUc := ULe.refl U
  refine ct_of_st Try.func25 rfl rfl rfl rfl ?_
  repeat (first | refine run_S ?_ | refine w_box (fun _ => ?_) | refine w_al (fun _ => ?_))
  refine st_draw [0, 1, 2, 3, 4] sym (by kernel_rfl) ?_
  repeat (first | refine run_S ?_ | refine w_box (fun _ => ?_) | refine w_al (fun _ => ?_))
  refine sl_call rfl rfl rfl rfl rfl rfl (fun _ => rNeg_ct (hy.up hUc sb) (by omega)) ?_
  rintro v U' Dh1 hU ⟨xh1, rfl, h1, rfl⟩
  refine sl_perm ?_ (perm3 (D := Dh1))
  repeat (first | refine run_S ?_ | refine w_box (fun _ => ?_) | refine w_al (fun _ => ?_))
  refine sl_call rfl rfl rfl rfl rfl rfl (fun _ => rAdd_ct (hx.up hUc sb) hn (h1.at sb).rep (h1.le (hy.sz (Nat.le_refl _)).neg hn')) ?_
  rintro v U' Dh2 hU ⟨xh2, rfl, h2, rfl⟩
  refine sl_perm ?_ (perm3 (D := Dh2))
  repeat (first | refine run_S ?_ | refine w_box (fun _ => ?_) | refine w_al (fun _ => ?_))
  exact sk_ret Dh2 sym rfl (.cons (.cell 0 rfl rfl rfl) .nil) hUc sb (.inl rfl) ⟨xh2, rfl, by rwa [Int.sub_eq_add_neg], rfl⟩

theorem rCmp_ct {x y : IV} {z u : Int} (hx : x.rep U M z) (hn : x.n ≤ 549755813888) (hy : y.rep U M u) (hn' : y.n ≤ 549755813888) :
    Ct Try.prog 6 [x.v, y.v] G U M fun v U' D => v = .int .i64 (z - u).sign ∧ U = U' ∧ D = [] := by
  have hUc := ULe.refl U
  refine ct_of_st Try.func6 rfl rfl rfl rfl ?_
  repeat (first | refine run_S ?_ | refine w_box (fun _ => ?_) | refine w_al (fun _ => ?_))
  refine sl_call rfl rfl rfl rfl rfl rfl (fun _ => rSub_ct (hx.up hUc sb) hn (hy.up hUc sb) hn') ?_
  rintro v U' Dh1 hU ⟨xh1, rfl, h1, rfl⟩
  refine sl_perm ?_ (perm2 (D := Dh1))
  repeat (first | refine run_S ?_ | refine w_box (fun _ => ?_) | refine w_al (fun _ => ?_))
  refine sl_call rfl rfl rfl rfl rfl rfl (fun _ => rSign_ct (h1.at sb).rep (h1.le (((hx.sz hn).sub (hy.sz hn'))) (by decide))) ?_
  rintro v U' D hU ⟨rfl, rfl, rfl⟩
  repeat (first | refine run_S ?_ | refine w_box (fun _ => ?_) | refine w_al (fun _ => ?_))
  exact sk_ret [] sym rfl (.cons (.tmp rfl) .nil) hUc sb (.inl rfl) ⟨rfl, rfl, rfl⟩

end Go.Proofs.Ytlnmhjkagnfnaaa

/- Walks of the reference of layer 1: products. -/
namespace Go.Proofs.Ytlnmhjkagnfnaaa
open Go.Hp
variable {G : World} {U : UH} {M : MH}

theorem rMul_ct {x y : IV} {z u : Int} (hx : x.rep U M z) (hn : x.n ≤ 549755813888) (hy : y.rep U M u) (hn' : y.n ≤ 549755813888) :
    Ct Try.prog 13 [x.v, y.v] G U M fun v U' D => ∃ r : IV, v = r.v ∧ r.own D (z * u) ∧ U = U' := by
  obtain ⟨neg2, p2, n2, c2⟩ := y
  obtain ⟨l2, hd2, rfl⟩ := hy
  obtain ⟨neg1, p1, n1, c1⟩ := x
  obtain ⟨l1, hd1, rfl⟩ := hx
  simp only at hd1 hd2 hn hn'
  have hla1 := hd1.len; have hla2 := hd2.len
  have hle1 := tl_length_le l1; have hle2 := tl_length_le l2
  refine ct_of_st Try.func13 rfl rfl rfl rfl ?_
  repeat (first | refine run_S ?_ | refine w_box (fun _ => ?_) | refine w_al (fun _ => ?_))
  rename_i b2 b3 b4
  refine st_draw [0, 1, 3, 4, 2, 5, 6, 7] sym (by kernel_rfl) ?_
  repeat (first | refine run_S ?_ | refine w_box (fun _ => ?_) | refine w_al (fun _ => ?_))
  refine sl_call rfl rfl rfl rfl rfl rfl (fun _ => trim_ct (hd1.up (ULe.refl _) sb) (Nat.le_trans hn (by decide))) ?_
  rintro v U' D1 hU ⟨q1, k1, cc1, rfl, o1, hk1, rfl⟩
  refine sl_perm ?_ (perm3 (D := D1))
  repeat (first | refine run_S ?_ | refine w_box (fun _ => ?_) | refine w_al (fun _ => ?_))
  refine sl_call rfl rfl rfl rfl rfl rfl (fun _ => trim_ct (hd2.up (ULe.refl _) sb) (Nat.le_trans hn' (by decide))) ?_
  rintro v U' D2 hU ⟨q2, k2, cc2, rfl, o2, hk2, rfl⟩
  refine sl_perm ?_ (perm3 (D := D2))
  repeat (first | refine run_S ?_ | refine w_box (fun _ => ?_) | refine w_al (fun _ => ?_))
  rw [← val_tl l1, ← val_tl l2]
  have ob1 := (o1.dig (U := U) (M := M)).bd
  have ob2 := (o2.dig (U := U) (M := M)).bd
  generalize tl l1 = a at *
  generalize tl l2 = b at *
  have hl1 := o1.len; have hl2 := o2.len
  refine sl_make (m := k1 + k2) (n := k1 + k2) sym rfl rfl rfl rfl rfl (by omega) (by omega) rfl rfl (Nat.le_refl _) (by omega) (by omega) rfl rfl rfl rfl (fun bo => ?_)
  rw [dg_rep]
  have ha : ∀ e, Dig U (e :: (b4, .var (.agg #[.bool false, .slice none 0 0]), 24) :: (b3, .var (IV.mk neg2 p2 n2 c2).v, 24) :: (b2, .var (IV.mk neg1 p1 n1 c1).v, 24) :: (D2 ++ (D1 ++ M))) q1 k1 cc1 a := fun e => (o1.dig (M := [])).up (ULe.refl _) (by rw [List.append_nil]; exact sb)
  have hb : ∀ e, Dig U (e :: (b4, .var (.agg #[.bool false, .slice none 0 0]), 24) :: (b3, .var (IV.mk neg2 p2 n2 c2).v, 24) :: (b2, .var (IV.mk neg1 p1 n1 c1).v, 24) :: (D2 ++ (D1 ++ M))) q2 k2 cc2 b := fun e => (o2.dig (M := [])).up (ULe.refl _) (by rw [List.append_nil]; exact sb)
  generalize hX : (b4, Blk.var (.agg #[.bool false, .slice none 0 0]), 24) :: (b3, Blk.var (IV.mk neg2 p2 n2 c2).v, 24) :: (b2, Blk.var (IV.mk neg1 p1 n1 c1).v, 24) :: (D2 ++ (D1 ++ M)) = X at ha hb
  repeat (first | refine run_S ?_ | refine w_box (fun _ => ?_) | refine w_al (fun _ => ?_))
  refine st_loop (fun m E U' M' => ∃ (i : Nat) (r : List Nat), i ≤ k1 ∧ r.length = i + k2 ∧ Bd r ∧ val r = val (a.take i) * val b ∧
      E = [(8, .int .i64 (i : Int)), (5, .slice q1 k1 cc1), (6, .slice q2 k2 cc2), (7, .slice (some ⟨bo, 0, none⟩) (k1 + k2) (k1 + k2)), (2, .pointer (some ⟨b2, 0, none⟩)), (3, .pointer (some ⟨b3, 0, none⟩)), (4, .pointer (some ⟨b4, 0, none⟩))] ∧ U = U' ∧ M' = (bo, .arr ((r ++ List.replicate (k1 - i) 0).map dg), TU32) :: X ∧ m = k1 - i) (n0 := k1)
    (E0 := [(8, .int .i64 ((0 : Nat) : Int)), (5, .slice q1 k1 cc1), (6, .slice q2 k2 cc2), (7, .slice (some ⟨bo, 0, none⟩) (k1 + k2) (k1 + k2)), (2, .pointer (some ⟨b2, 0, none⟩)), (3, .pointer (some ⟨b3, 0, none⟩)), (4, .pointer (some ⟨b4, 0, none⟩))]) ⟨rfl, rfl, rfl, rfl, rfl, rfl, rfl, trivial⟩
    ⟨0, List.replicate k2 0, by omega, by simp, bd_rep _, by rw [val_replicate]; simp [val], rfl, rfl, by rw [← hX, List.replicate_append_replicate, Nat.sub_zero, Nat.add_comm], rfl⟩ ?_
  rintro m E U' M' ⟨i, r, hi, hr, hbr, hv, rfl, rfl, rfl, rfl⟩
  try refine run_s ?_
  refine st_dec rfl (fun h5 => ?_) (fun h5 => ?_)
  · obtain ⟨x, hx, hbx, hp1, hcx⟩ := (ha (bo, .arr [], 0)).get (k := i) (by omega)
    have hq1 : (r.drop i).length = k2 := by rw [List.length_drop, hr]; omega
    have hq2 : (r.take i).length = i := by rw [List.length_take, hr]; omega
    try refine run_s ?_
    refine st_loop (fun m E U' M' => ∃ (j cy : Nat) (S post : List Nat), j ≤ k2 ∧ cy < 4294967296 ∧ S.length = j ∧ Bd S ∧ (r.drop i).drop j = post ∧ val S + 4294967296 ^ j * cy = val ((r.drop i).take j) + x * val (b.take j) ∧
        E = [(10, .int .i64 (j : Int)), (9, .int .u64 (cy : Int)), (8, .int .i64 (i : Int)), (5, .slice q1 k1 cc1), (6, .slice q2 k2 cc2), (7, .slice (some ⟨bo, 0, none⟩) (k1 + k2) (k1 + k2)), (2, .pointer (some ⟨b2, 0, none⟩)), (3, .pointer (some ⟨b3, 0, none⟩)), (4, .pointer (some ⟨b4, 0, none⟩))] ∧
        U = U' ∧ M' = (bo, .arr (((r.take i ++ S) ++ (post ++ List.replicate (k1 - i) 0)).map dg), TU32) :: X ∧ m = k2 - j) (n0 := k2)
      (E0 := [(10, .int .i64 ((0 : Nat) : Int)), (9, .int .u64 ((0 : Nat) : Int)), (8, .int .i64 (i : Int)), (5, .slice q1 k1 cc1), (6, .slice q2 k2 cc2), (7, .slice (some ⟨bo, 0, none⟩) (k1 + k2) (k1 + k2)), (2, .pointer (some ⟨b2, 0, none⟩)), (3, .pointer (some ⟨b3, 0, none⟩)), (4, .pointer (some ⟨b4, 0, none⟩))])
      ⟨rfl, rfl, rfl, rfl, rfl, rfl, rfl, rfl, rfl, trivial⟩ ⟨0, 0, [], r.drop i, by omega, by omega, rfl, (by intro d hd; cases hd), rfl, by simp [val], rfl, rfl, by rw [List.append_nil, ← List.append_assoc, List.take_append_drop], rfl⟩ ?_
    rintro m E U' M' ⟨j, cy, S, post, hj, hcy, hS, hbS, hpost, hvS, rfl, rfl, rfl, rfl⟩
    try refine run_s ?_
    refine st_dec rfl (fun h8 => ?_) (fun h8 => ?_)
    · obtain ⟨x', hx', -, -, hcx⟩ := (ha (bo, .arr (((r.take i ++ S) ++ (post ++ List.replicate (k1 - i) 0)).map dg), TU32)).get (k := i) (by omega)
      rw [hx] at hx'
      cases hx'
      obtain ⟨y, hy, hby, hp2, hcy'⟩ := (hb (bo, .arr (((r.take i ++ S) ++ (post ++ List.replicate (k1 - i) 0)).map dg), TU32)).get (k := j) (by omega)
      have hjl : j < (r.drop i).length := by omega
      obtain ⟨q, hq⟩ : ∃ q, (r.drop i)[j]? = some q := ⟨_, List.getElem?_eq_getElem hjl⟩
      have hbq : q < 4294967296 := bd_get (bd_drop hbr i) hq
      have hpq : post = q :: (r.drop i).drop (j + 1) := by
        obtain ⟨hl, he⟩ := List.getElem?_eq_some_iff.1 hq
        rw [← hpost, List.drop_eq_getElem_cons hl, he]
      have hlen : (r.take i ++ S).length = i + j := by rw [List.length_append, hq2, hS]
      have hget : ((r.take i ++ S) ++ (post ++ List.replicate (k1 - i) 0))[i + j]? = some q := by
        rw [hpq, List.getElem?_append_right (by omega), hlen, Nat.sub_self]; rfl
      have hm := mul_bound hbx hby
      have hm' : 0 ≤ (x : Int) * (y : Int) ∧ (x : Int) * (y : Int) ≤ 18446744065119617025 := by
        have : (x : Int) * (y : Int) = ((x * y : Nat) : Int) := by simp
        omega
      try refine run_s ?_
      refine st_draw [0, 1, 2, 3, 4, 5, 6, 7, 8, 9, 10, 11, 12, 13, 14, 15, 16, 17, 18, 19, 20, 21] sym (by kernel_rfl) ?_
      try refine run_s ?_
      refine sl_y (yl_index1 sym rfl rfl rfl rfl rfl rfl (by omega) hp1) rfl rfl rfl rfl ?_; refine sl_y (yl_loadD sym rfl rfl rfl rfl hcx) rfl rfl rfl rfl ?_
      try refine run_s ?_
      refine sl_y (yl_index1 sym rfl rfl rfl rfl rfl rfl (by omega) hp2) rfl rfl rfl rfl ?_; refine sl_y (yl_loadD sym rfl rfl rfl rfl hcy') rfl rfl rfl rfl ?_
      try refine run_s ?_
      refine sl_y (yl_indexM (j := i + j) sym rfl rfl rfl rfl rfl (by omega) (by omega)) rfl rfl rfl rfl ?_
      refine sl_y (yl_loadMD 0 sym rfl rfl rfl rfl rfl (j := i + j) (by omega) hget) rfl rfl rfl rfl ?_
      try refine run_s ?_
      refine sl_y (yl_indexM (j := i + j) sym rfl rfl rfl rfl rfl (by omega) (by omega)) rfl rfl rfl rfl ?_
      refine sl_storeD 0 sym rfl rfl rfl (v := (x * y + q + cy) % 4294967296) (by simp) rfl rfl rfl (j := i + j) (by omega) (by rw [List.length_append, hlen, hpq]; simp) rfl rfl rfl ?_
      rw [hpq, List.cons_append, set_mid hlen]
      try refine run_s ?_
      have e2 : ((x : Int) * (y : Int) + (q : Int) + (cy : Int)) / 2 ^ 32 = (((x * y + q + cy) / 4294967296 : Nat) : Int) := by simp
      rw [e2]
      refine sk_again (E' := [(10, .int .i64 ((j : Int) + 1)), (9, .int .u64 (((x * y + q + cy) / 4294967296 : Nat) : Int)), (8, .int .i64 (i : Int)), (5, .slice q1 k1 cc1), (6, .slice q2 k2 cc2), (7, .slice (some ⟨bo, 0, none⟩) (k1 + k2) (k1 + k2)), (2, .pointer (some ⟨b2, 0, none⟩)), (3, .pointer (some ⟨b3, 0, none⟩)), (4, .pointer (some ⟨b4, 0, none⟩))]) (m := k2 - (j + 1))
        ⟨rfl, rfl, rfl, rfl, rfl, rfl, rfl, rfl, rfl, trivial⟩ (by omega) ⟨j + 1, (x * y + q + cy) / 4294967296, S ++ [(x * y + q + cy) % 4294967296], (r.drop i).drop (j + 1), by omega, by omega, by simp [hS], bd_snoc hbS (Nat.mod_lt _ (by omega)), rfl, ?_, rfl, rfl, ?_, rfl⟩
      · rw [val_snoc, hS, val_take_succ hq, val_take_succ hy, Nat.pow_succ]
        have e := Nat.mod_add_div (x * y + q + cy) 4294967296
        generalize (x * y + q + cy) % 4294967296 = s at *
        generalize (x * y + q + cy) / 4294967296 = t at *
        generalize 4294967296 ^ j = pw at *
        grind
      · simp only [List.append_assoc]; rfl
    · have : j = k2 := by omega
      subst this
      have hlen : (r.take i ++ S).length = i + j := by rw [List.length_append, hq2, hS]
      have hpn : post = [] := by rw [← hpost]; exact List.drop_eq_nil_of_le (by omega)
      subst hpn
      have hrep : List.replicate (k1 - i) 0 = 0 :: List.replicate (k1 - (i + 1)) 0 := by
        rw [show k1 - i = (k1 - (i + 1)) + 1 by omega, List.replicate_succ]
      try refine run_s ?_
      refine sl_y (yl_indexM (j := i + j) sym rfl rfl rfl rfl rfl (by omega) (by omega)) rfl rfl rfl rfl ?_
      refine sl_storeD 0 sym rfl rfl rfl (v := cy) (by simp) rfl rfl rfl (j := i + j) (by omega) (by rw [List.length_append, hlen]; simp; omega) rfl rfl rfl ?_
      rw [List.nil_append, hrep, set_mid hlen]
      try refine run_s ?_
      refine sk_again (E' := [(8, .int .i64 ((i : Int) + 1)), (5, .slice q1 k1 cc1), (6, .slice q2 j cc2), (7, .slice (some ⟨bo, 0, none⟩) (k1 + j) (k1 + j)), (2, .pointer (some ⟨b2, 0, none⟩)), (3, .pointer (some ⟨b3, 0, none⟩)), (4, .pointer (some ⟨b4, 0, none⟩))]) (m := k1 - (i + 1))
        ⟨rfl, rfl, rfl, rfl, rfl, rfl, rfl, trivial⟩ (by omega) ⟨i + 1, r.take i ++ S ++ [cy], by omega, by simp; omega, bd_snoc (bd_app (bd_take hbr i) hbS) hcy, ?_, rfl, rfl, rfl, rfl⟩
      rw [val_snoc, val_append, hlen, hq2, val_take_succ hx]
      have e1 := val_split r i (by omega)
      rw [take_all (by omega), take_all (by omega)] at hvS
      rw [Nat.pow_add]
      generalize 4294967296 ^ i = pw at *
      generalize 4294967296 ^ j = pj at *
      grind
  · have : i = k1 := by omega
    subst this
    have ho := Own.row (b := bo) (n := i + k2) (c := i + k2) (r := r ++ List.replicate (i - i) 0) (Nat.le_refl _) (by simp [hr]) (by omega) (bd_app hbr (bd_rep _))
    rw [take_all (by simp [hr])] at ho
    subst hX
    refine st_perm (M' := (b4, .var (.agg #[.bool false, .slice none 0 0]), 24) :: (b3, .var (IV.mk neg2 p2 n2 c2).v, 24) :: (b2, .var (IV.mk neg1 p1 n1 c1).v, 24) :: (bo, .arr ((r ++ List.replicate (i - i) 0).map dg), TU32) :: (D2 ++ (D1 ++ M))) rot3 ?_
    repeat (first | refine run_S ?_ | refine w_box (fun _ => ?_) | refine w_al (fun _ => ?_))
    refine sl_call rfl rfl rfl rfl rfl rfl (fun _ => rsigned_ct (ho.dig.up (ULe.refl _) (by rw [List.append_nil]; exact sb)) (by omega)) ?_
    rintro v U' Dh9 hU ⟨xh9, rfl, h9, rfl⟩
    refine sl_perm ?_ (perm3 (D := Dh9))
    repeat (first | refine run_S ?_ | refine w_box (fun _ => ?_) | refine w_al (fun _ => ?_))
    refine sk_ret Dh9 sym rfl (.cons (.cell 0 rfl rfl rfl) .nil) (ULe.refl _) sb (.inl rfl) ⟨xh9, rfl, ?_, rfl⟩
    rw [val_app_rep, hv, take_all (by omega)] at h9
    rwa [← sg_mul]

end Go.Proofs.Ytlnmhjkagnfnaaa
