/- Walks of the reference of layer 2: decimal forms; the law on them. -/
import Derived.Test.YtcndgdjelopmaaaGreatB84
namespace Go.Proofs.YtcndgdjelopmaaaGreat
open Go.Hp
variable {G : World} {U : UH} {M : MH}

theorem rqFormat_ct {x : QV} {q : Rat} (hx : x.rep U M q) (hn : x.le 137438953472) :
    Ct Tryz.prog 8 [x.v] G U M fun v U' D => v = .string (bstr (qfmt q)) ∧ ULe U U' ∧ D = [] := by
  have s1 := hx.sz hn (by decide)
  have f1 := fmt_len0 s1.1
  have f2 := fmt_len0 s1.2
  refine ct_of_st Tryz.func8 rfl rfl rfl rfl ?_
  repeat (first | refine run_S ?_ | refine w_box (fun _ => ?_) | refine w_al (fun _ => ?_))
  refine sl_call rfl rfl rfl rfl rfl rfl (fun _ => rqNormal_ct (hx.up uc sb) (by omega)) ?_
  rintro v Uh1 D hU ⟨xh1, rfl, h1, rfl⟩
  repeat (first | refine run_S ?_ | refine w_box (fun _ => ?_) | refine w_al (fun _ => ?_))
  refine sl_call rfl rfl rfl rfl rfl rfl (fun _ => rFormat_ct (h1.1.rep.up uc sb) (h1.1.le s1.1 (by omega))) ?_
  rintro v U2 D hU ⟨rfl, rfl⟩
  repeat (first | refine run_S ?_ | refine w_box (fun _ => ?_) | refine w_al (fun _ => ?_))
  refine st_draw [0, 1, 2, 3, 4] sym (by kernel_rfl) ?_
  repeat (first | refine run_S ?_ | refine w_box (fun _ => ?_) | refine w_al (fun _ => ?_))
  refine sl_call rfl rfl rfl rfl rfl rfl (fun _ => (rOf_ct (z := 1) (by decide) (by decide)).settle) ?_
  rintro v Uh2 D hU ⟨rfl, _, _, ⟨xh2, rfl, h2, -⟩, -, -, hs⟩
  replace h2 := h2.sett hs
  clear hs
  repeat (first | refine run_S ?_ | refine w_box (fun _ => ?_) | refine w_al (fun _ => ?_))
  refine sl_call rfl rfl rfl rfl rfl rfl (fun _ => rSame_cz (h1.2.up uc sb) (h2.up uc sb)) ?_
  rintro v U' D hU ⟨rfl, rfl, rfl⟩
  repeat (first | refine run_S ?_ | refine w_box (fun _ => ?_) | refine w_al (fun _ => ?_))
  by_cases h : (q.den : Int) = 1
  · rw [decide_eq_true h]
    repeat (first | refine run_S ?_ | refine w_box (fun _ => ?_) | refine w_al (fun _ => ?_))
    exact sk_ret [] sym rfl (.cons (.tmp rfl) .nil) uc sb (.inl rfl) ⟨by unfold qfmt; rw [if_pos (by omega), List.append_nil]; rfl, uc, rfl⟩
  · rw [decide_eq_false h]
    repeat (first | refine run_S ?_ | refine w_box (fun _ => ?_) | refine w_al (fun _ => ?_))
    refine sl_y (yl_stradd (b := bstr [47]) rfl rfl rfl (by rw [bstr_size, bstr_size]; simp only [List.length_singleton]; omega)) rfl rfl rfl rfl ?_
    rw [bstr_append]
    repeat (first | refine run_S ?_ | refine w_box (fun _ => ?_) | refine w_al (fun _ => ?_))
    refine sl_call rfl rfl rfl rfl rfl rfl (fun _ => rFormat_ct (h1.2.rep.up uc sb) (h1.2.le s1.2 (by omega))) ?_
    rintro v U3 D hU ⟨rfl, rfl⟩
    repeat (first | refine run_S ?_ | refine w_box (fun _ => ?_) | refine w_al (fun _ => ?_))
    refine sl_y (yl_stradd rfl rfl rfl (by rw [bstr_size, bstr_size, List.length_append]; simp only [List.length_singleton]; omega)) rfl rfl rfl rfl ?_
    rw [bstr_append]
    repeat (first | refine run_S ?_ | refine w_box (fun _ => ?_) | refine w_al (fun _ => ?_))
    exact sk_ret [] sym rfl (.cons (.tmp rfl) .nil) uc sb (.inl rfl) ⟨by unfold qfmt; rw [if_neg (by omega), List.append_assoc]; rfl, uc, rfl⟩

theorem zeroIV_rep : zeroIV.rep U M 0 := ⟨[], Dig.nil, rfl⟩

theorem rqParse_ct {s : List Nat} (hs : ∀ c ∈ s, c < 256) (hn : s.length ≤ 100000) :
    Ct Tryz.prog 11 [.string (bstr s)] G U M fun v U' D => ∃ (r : QV) (b : Bool), v = .tuple #[r.v, .bool b] ∧ (∀ q, qfmt q = s → b = true ∧ r.nrm U' [] q) ∧ ((∀ q, qfmt q ≠ s) → b = false) ∧ D = [] := by
  refine ct_of_st Tryz.func11 rfl rfl rfl rfl ?_
  repeat (first | refine run_S ?_ | refine w_box (fun _ => ?_) | refine w_al (fun _ => ?_))
  rename_i b2
  refine st_loop (fun m E U' M' => ∃ i : Nat, i ≤ s.length ∧ 47 ∉ s.take i ∧ E = [(4, .int .i64 (i : Int)), (0, .string (bstr s)), (2, .pointer (some ⟨b2, 0, none⟩))] ∧ U = U' ∧ M' = (b2, .var zeroQV.v, 26) :: M ∧ m = s.length - i) (n0 := s.length)
    (E0 := [(4, .int .i64 ((0 : Nat) : Int)), (0, .string (bstr s)), (2, .pointer (some ⟨b2, 0, none⟩))]) ⟨rfl, rfl, rfl, trivial⟩ ⟨0, by omega, by simp, rfl, rfl, rfl, rfl⟩ ?_
  rintro m E U' M' ⟨i, hi, hno, rfl, rfl, rfl, rfl⟩
  try refine run_s ?_
  refine st_dec rfl (fun h1 => ?_) (fun h1 => ?_)
  · rw [bstr_size] at h1
    have hlt : i < s.length := by omega
    obtain ⟨c, hc⟩ : ∃ c, s[i]? = some c := ⟨_, List.getElem?_eq_getElem hlt⟩
    have hc256 := hs c (List.mem_of_getElem? hc)
    try refine run_s ?_
    refine sl_y (yl_strAt (s := s) (k := i) sym rfl rfl rfl rfl rfl rfl hc hc256) rfl rfl rfl rfl ?_
    try refine run_s ?_
    refine st_eq rfl (fun h2 => ?_) (fun h2 => ?_)
    · have hsp : s = s.take i ++ 47 :: s.drop (i + 1) := by
        have e : c = 47 := by omega
        subst e
        have := List.take_append_drop i s
        rw [List.drop_eq_getElem_cons hlt] at this
        rw [(List.getElem?_eq_some_iff.1 hc).2] at this
        exact this.symm
      obtain ⟨b, hb⟩ : ∃ b, b = s.take i := ⟨_, rfl⟩
      obtain ⟨a, ha⟩ : ∃ a, a = s.drop (i + 1) := ⟨_, rfl⟩
      rw [← hb, ← ha] at hsp
      rw [← hb] at hno
      have hbb : ∀ c ∈ b, c < 256 := fun c hc => hs c (by rw [hb] at hc; exact List.mem_of_mem_take hc)
      have haa : ∀ c ∈ a, c < 256 := fun c hc => hs c (by rw [ha] at hc; exact List.mem_of_mem_drop hc)
      have hbl : b.length ≤ 100000 := by rw [hb, List.length_take]; omega
      have hal : a.length ≤ 100000 := by rw [ha, List.length_drop]; omega
      have hbad : ¬ (Good b ∧ Good a) → ∀ q, qfmt q ≠ s := by
        intro h3 q hq
        rcases qfmt_cut hq with ⟨g1, -, -⟩ | ⟨-, g3⟩
        · exact g1 (by rw [hsp]; simp)
        · rw [hsp] at g3
          obtain ⟨rfl, rfl⟩ := cut_inj g3 hno (fmt_no47 _)
          exact h3 ⟨(fmt_good _).1, (fmt_good _).1⟩
      repeat (first | refine run_S ?_ | refine w_box (fun _ => ?_) | refine w_al (fun _ => ?_))
      refine sl_y (yl_strTo (s := s) (k := i) sym rfl rfl rfl rfl rfl rfl (by omega)) rfl rfl rfl rfl ?_
      rw [← hb]
      repeat (first | refine run_S ?_ | refine w_box (fun _ => ?_) | refine w_al (fun _ => ?_))
      refine sl_call rfl rfl rfl rfl rfl rfl (fun _ => rParse_ct hbb (by omega)) ?_
      rintro v U3 D hU3 ⟨rfl, x, f1, rfl, x1, x0⟩
      repeat (first | refine run_S ?_ | refine w_box (fun _ => ?_) | refine w_al (fun _ => ?_))
      refine sl_y (yl_strFrom (s := s) (k := i + 1) sym rfl rfl rfl (by omega) rfl rfl (by omega)) rfl rfl rfl rfl ?_
      rw [← ha]
      repeat (first | refine run_S ?_ | refine w_box (fun _ => ?_) | refine w_al (fun _ => ?_))
      refine sl_call rfl rfl rfl rfl rfl rfl (fun _ => rParse_ct haa (by omega)) ?_
      rintro v U4 D hU4 ⟨rfl, y, f2, rfl, y1, y0⟩
      have hx : ∃ z, x.rep U4 [] z ∧ x.n ≤ 100001 ∧ (Good b → z = pv b) := by
        by_cases g : Good b
        · exact ⟨_, (x1 g).2.rep.up uc sb, (x1 g).2.le (sz_pv g hbl) (by omega), fun _ => rfl⟩
        · rw [(x0 g).2]; exact ⟨0, zeroIV_rep, Nat.zero_le _, fun h => absurd h g⟩
      have hy : ∃ z, y.rep U4 [] z ∧ y.n ≤ 100001 ∧ (Good a → z = pv a) := by
        by_cases g : Good a
        · exact ⟨_, (y1 g).2.rep, (y1 g).2.le (sz_pv g hal) (by omega), fun _ => rfl⟩
        · rw [(y0 g).2]; exact ⟨0, zeroIV_rep, Nat.zero_le _, fun h => absurd h g⟩
      obtain ⟨zx, hx, hnx, hzx⟩ := hx
      obtain ⟨zy, hy, hny, hzy⟩ := hy
      repeat (first | refine run_S ?_ | refine w_box (fun _ => ?_) | refine w_al (fun _ => ?_))
      refine sl_call rfl rfl rfl rfl rfl rfl (fun _ => rqOver_ct (hx.up uc sb) (by omega) (hy.up uc sb) (by omega)) ?_
      rintro v Uh5 D hU ⟨xh5, rfl, h5, rfl⟩
      repeat (first | refine run_S ?_ | refine w_box (fun _ => ?_) | refine w_al (fun _ => ?_))
      have sq := szq_div ((hx.sz (Nat.le_refl _)).mono hnx) ((hy.sz (Nat.le_refl _)).mono hny) (by omega)
      cases f1
      · have nb : ¬ Good b := fun g => by have := (x1 g).1; cases this
        repeat (first | refine run_S ?_ | refine w_box (fun _ => ?_) | refine w_al (fun _ => ?_))
        exact sk_ret [] sym rfl (.cons (.cell 3 rfl rfl rfl) (.cons (.tmp rfl) .nil)) uc sb (.inl rfl) ⟨zeroQV, false, rfl, fun q h => absurd h (hbad (fun g => nb g.1) q), fun _ => rfl, rfl⟩
      have gb : Good b := by
        by_cases g : Good b
        · exact g
        · have := (x0 g).1; cases this
      repeat (first | refine run_S ?_ | refine w_box (fun _ => ?_) | refine w_al (fun _ => ?_))
      cases f2
      · have na : ¬ Good a := fun g => by have := (y1 g).1; cases this
        repeat (first | refine run_S ?_ | refine w_box (fun _ => ?_) | refine w_al (fun _ => ?_))
        exact sk_ret [] sym rfl (.cons (.cell 3 rfl rfl rfl) (.cons (.tmp rfl) .nil)) uc sb (.inl rfl) ⟨zeroQV, false, rfl, fun q h => absurd h (hbad (fun g => na g.2) q), fun _ => rfl, rfl⟩
      have ga : Good a := by
        by_cases g : Good a
        · exact g
        · have := (y0 g).1; cases this
      repeat (first | refine run_S ?_ | refine w_box (fun _ => ?_) | refine w_al (fun _ => ?_))
      refine sl_call rfl rfl rfl rfl rfl rfl (fun _ => rqFormat_ct (h5.rep.up uc sb) (h5.le (sq) (by omega))) ?_
      rintro v _ D hU ⟨rfl, -, rfl⟩
      repeat (first | refine run_S ?_ | refine w_box (fun _ => ?_) | refine w_al (fun _ => ?_))
      have hval : ∀ q, qfmt q = s → q = Rat.divInt zx zy := by
        intro q hq
        rw [hzx gb, hzy ga]
        rcases qfmt_cut hq with ⟨g1, -, -⟩ | ⟨-, g3⟩
        · exact absurd (by rw [hsp]; simp) g1
        · rw [hsp] at g3
          obtain ⟨e1, e2⟩ := cut_inj g3 hno (fmt_no47 _)
          rw [e1, e2, (fmt_good _).2, (fmt_good _).2, rat_self]
      by_cases hq : qfmt (Rat.divInt zx zy) = s
      · refine sl_y (yl_strne rfl rfl rfl (by rw [hq])) rfl rfl rfl rfl ?_
        repeat (first | refine run_S ?_ | refine w_box (fun _ => ?_) | refine w_al (fun _ => ?_))
        refine sk_ret [] sym rfl (.cons (.cell 3 rfl rfl rfl) (.cons (.tmp rfl) .nil)) uc sb (.inl rfl) ⟨xh5, true, rfl, fun q h => ⟨rfl, by rw [hval q h]; exact h5.up uc sb⟩, fun h => absurd hq (h _), rfl⟩
      · refine sl_y (yl_strne' rfl rfl rfl (fun e => hq (bstr_inj (qfmt_byte _) hs e))) rfl rfl rfl rfl ?_
        repeat (first | refine run_S ?_ | refine w_box (fun _ => ?_) | refine w_al (fun _ => ?_))
        refine sk_ret [] sym rfl (.cons (.cell 3 rfl rfl rfl) (.cons (.tmp rfl) .nil)) uc sb (.inl rfl) ⟨zeroQV, false, rfl, fun q h => absurd (by rw [← hval q h]; exact h) hq, fun _ => rfl, rfl⟩
    · try refine run_s ?_
      refine sk_again (E' := [(4, .int .i64 ((i : Int) + 1)), (0, .string (bstr s)), (2, .pointer (some ⟨b2, 0, none⟩))]) (m := s.length - (i + 1)) ⟨rfl, rfl, rfl, trivial⟩ (by omega) ⟨i + 1, by omega, ?_, rfl, rfl, rfl, rfl⟩
      rw [List.take_add_one, hc]
      intro h3
      rcases List.mem_append.1 h3 with h3 | h3
      · exact hno h3
      · have := List.mem_singleton.1 h3
        omega
  · have hi2 : i = s.length := by rw [bstr_size] at h1; omega
    rw [hi2, List.take_length] at hno
    repeat (first | refine run_S ?_ | refine w_box (fun _ => ?_) | refine w_al (fun _ => ?_))
    refine sl_call rfl rfl rfl rfl rfl rfl (fun _ => rParse_ct hs (by omega)) ?_
    rintro v U3 D hU3 ⟨rfl, x, f1, rfl, x1, x0⟩
    by_cases g : Good s
    · obtain ⟨rfl, hx⟩ := x1 g
      have sx := sz_pv g (Nat.le_refl _)
      repeat (first | refine run_S ?_ | refine w_box (fun _ => ?_) | refine w_al (fun _ => ?_))
      refine sl_call rfl rfl rfl rfl rfl rfl (fun _ => rqWhole_ct (hx.rep.up uc sb) (hx.le (sx) (by omega))) ?_
      rintro v Uh5 D hU ⟨xh5, rfl, h5, rfl⟩
      repeat (first | refine run_S ?_ | refine w_box (fun _ => ?_) | refine w_al (fun _ => ?_))
      refine sk_ret [] sym rfl (.cons (.cell 1 rfl rfl rfl) (.cons (.tmp rfl) .nil)) uc sb (.inl rfl) ⟨xh5, true, rfl, fun q h => ⟨rfl, ?_⟩, fun h => absurd ?_ (h ((pv s : Int) : Rat)), rfl⟩
      · rcases qfmt_cut h with ⟨-, g2, g3⟩ | ⟨-, g3⟩
        · rw [rat_eq_num' g2, ← (fmt_good q.num).2, ← g3]; exact h5
        · exact absurd (by rw [g3]; simp) hno
      · unfold qfmt
        rw [Rat.den_intCast, if_pos rfl, List.append_nil, Rat.num_intCast, good_fmt g]
    · obtain ⟨rfl, rfl⟩ := x0 g
      have hb : ∀ q, qfmt q ≠ s := by
        intro q hq
        rcases qfmt_cut hq with ⟨-, -, g3⟩ | ⟨-, g3⟩
        · exact g (by rw [g3]; exact (fmt_good _).1)
        · exact hno (by rw [g3]; simp)
      repeat (first | refine run_S ?_ | refine w_box (fun _ => ?_) | refine w_al (fun _ => ?_))
      exact sk_ret [] sym rfl (.cons (.cell 1 rfl rfl rfl) (.cons (.tmp rfl) .nil)) uc sb (.inl rfl) ⟨zeroQV, false, rfl, fun q h => absurd h (hb q), fun _ => rfl, rfl⟩

theorem RationalStrings_ct {a : QV} {q : Rat} {sv : ByteArray} (ha : a.rep U M q) :
    Ct Tryz.prog 3 [a.v, .string sv] G U M fun v _ _ => v = .bool true := by
  obtain ⟨s, rfl, hs⟩ := bstr_all sv
  refine ct_of_st Tryz.func3 rfl rfl rfl rfl ?_
  repeat (first | refine run_S ?_ | refine w_box (fun _ => ?_) | refine w_al (fun _ => ?_))
  refine sl_call rfl rfl rfl rfl rfl rfl (fun _ => awake2_ct) ?_
  rintro v U1 D hU ⟨rfl, -, rfl⟩
  repeat (first | refine run_S ?_ | refine w_box (fun _ => ?_) | refine w_al (fun _ => ?_))
  refine sl_bslice (vs := [a].map QV.v) sym rfl rfl rfl rfl rfl rfl qvs_size rfl rfl rfl rfl rfl rfl (fun bo => ?_)
  repeat (first | refine run_S ?_ | refine w_box (fun _ => ?_) | refine w_al (fun _ => ?_))
  refine sl_call rfl rfl rfl rfl rfl rfl (fun _ => long2_ct (qvs_head.app _) rfl (by decide)) ?_
  rintro v U' D hU' ⟨r, rfl, hr, rfl, rfl⟩
  repeat (first | refine run_S ?_ | refine w_box (fun _ => ?_) | refine w_al (fun _ => ?_))
  cases r
  · have hna := hr rfl a (by simp)
    have sa := ha.sz hna (by decide)
    have f1 := fmt_len0 sa.1
    have f2 := fmt_len0 sa.2
    have hfl : (qfmt q).length ≤ 1000 := by
      unfold qfmt
      rw [List.length_append]
      split
      · simp; omega
      · rw [List.length_cons]; omega
    repeat (first | refine run_S ?_ | refine w_box (fun _ => ?_) | refine w_al (fun _ => ?_))
    refine st_dec rfl (fun h1 => ?_) (fun h1 => ?_)
    · repeat (first | refine run_S ?_ | refine w_box (fun _ => ?_) | refine w_al (fun _ => ?_))
      exact sk_ret [] sym rfl (.cons (.tmp rfl) .nil) uc sb (.inl rfl) rfl
    rw [bstr_size] at h1
    repeat (first | refine run_S ?_ | refine w_box (fun _ => ?_) | refine w_al (fun _ => ?_))
    refine sl_call rfl rfl rfl rfl rfl rfl (fun _ => qFormat_ct (ha.up uc sb) (by omega)) ?_
    rintro v _ D hU ⟨rfl, -, rfl⟩
    repeat (first | refine run_S ?_ | refine w_box (fun _ => ?_) | refine w_al (fun _ => ?_))
    refine sl_call rfl rfl rfl rfl rfl rfl (fun _ => qParse_ct (qfmt_byte q) (by omega)) ?_
    rintro v U3 D hU3 ⟨back, e, rfl, hgood, -, rfl⟩
    obtain ⟨rfl, hback⟩ := hgood q rfl
    repeat (first | refine run_S ?_ | refine w_box (fun _ => ?_) | refine w_al (fun _ => ?_))
    refine st_draw [0, 1, 2, 3, 4, 5, 6, 7, 8, 9, 10, 11, 12, 13, 14] sym (by kernel_rfl) ?_
    repeat (first | refine run_S ?_ | refine w_box (fun _ => ?_) | refine w_al (fun _ => ?_))
    refine sl_call rfl rfl rfl rfl rfl rfl (fun _ => rqFormat_ct (ha.up uc sb) (by omega)) ?_
    rintro v _ D hU ⟨rfl, -, rfl⟩
    repeat (first | refine run_S ?_ | refine w_box (fun _ => ?_) | refine w_al (fun _ => ?_))
    refine sl_y (yl_strne rfl rfl rfl rfl) rfl rfl rfl rfl ?_
    repeat (first | refine run_S ?_ | refine w_box (fun _ => ?_) | refine w_al (fun _ => ?_))
    refine sl_gdec rfl rfl (fun h => absurd rfl h) (fun _ => ?_)
    repeat (first | refine run_S ?_ | refine w_box (fun _ => ?_) | refine w_al (fun _ => ?_))
    refine sl_call rfl rfl rfl rfl rfl rfl (fun _ => rqNormal_ct (ha.up uc sb) (by omega)) ?_
    rintro v Uh5 D hU ⟨xh5, rfl, h5, rfl⟩
    repeat (first | refine run_S ?_ | refine w_box (fun _ => ?_) | refine w_al (fun _ => ?_))
    refine sl_call rfl rfl rfl rfl rfl rfl (fun _ => rqSameT_ct (hback.up uc sb) (h5.up uc sb)) ?_
    rintro v U' D hU ⟨rfl, rfl, rfl⟩
    repeat (first | refine run_S ?_ | refine w_box (fun _ => ?_) | refine w_al (fun _ => ?_))
    refine sl_call rfl rfl rfl rfl rfl rfl (fun _ => qParse_ct hs (by omega)) ?_
    rintro v U6 D hU6 ⟨x, e, rfl, x1, x0, rfl⟩
    repeat (first | refine run_S ?_ | refine w_box (fun _ => ?_) | refine w_al (fun _ => ?_))
    refine sl_call rfl rfl rfl rfl rfl rfl (fun _ => rqParse_ct hs (by omega)) ?_
    rintro v U7 D hU7 ⟨y, b, rfl, y1, y0, rfl⟩
    repeat (first | refine run_S ?_ | refine w_box (fun _ => ?_) | refine w_al (fun _ => ?_))
    by_cases hq : ∃ q', qfmt q' = s
    · obtain ⟨q', hq'⟩ := hq
      obtain ⟨rfl, hx⟩ := x1 q' hq'
      obtain ⟨rfl, hy⟩ := y1 q' hq'
      have sq : Szq q' 200 := by
        rcases qfmt_cut hq' with ⟨-, g2, g3⟩ | ⟨-, g3⟩
        · refine ⟨?_, by rw [g2]; exact sz_one (by decide)⟩
          have := sz_pv (s := s) (by rw [g3]; exact (fmt_good _).1) (k := 200) (by omega)
          rwa [g3, (fmt_good _).2] at this
        · have hl := congrArg List.length g3
          rw [List.length_append, List.length_cons] at hl
          have w1 := sz_pv (fmt_good q'.num).1 (k := 200) (by omega)
          have w2 := sz_pv (fmt_good (q'.den : Int)).1 (k := 200) (by omega)
          rw [(fmt_good _).2] at w1 w2
          exact ⟨w1, w2⟩
      repeat (first | refine run_S ?_ | refine w_box (fun _ => ?_) | refine w_al (fun _ => ?_))
      refine sl_gdec rfl rfl (fun _ => ?_) (fun h => absurd rfl h)
      repeat (first | refine run_S ?_ | refine w_box (fun _ => ?_) | refine w_al (fun _ => ?_))
      refine sl_call rfl rfl rfl rfl rfl rfl (fun _ => rqSameT_ct (hx.up uc sb) (hy.up uc sb)) ?_
      rintro v U' D hU ⟨rfl, rfl, rfl⟩
      repeat (first | refine run_S ?_ | refine w_box (fun _ => ?_) | refine w_al (fun _ => ?_))
      refine sl_call rfl rfl rfl rfl rfl rfl (fun _ => qFormat_ct (hx.rep.up uc sb) (hx.le (sq) (by omega))) ?_
      rintro v _ D hU ⟨rfl, -, rfl⟩
      repeat (first | refine run_S ?_ | refine w_box (fun _ => ?_) | refine w_al (fun _ => ?_))
      refine sl_y (yl_streq rfl rfl rfl (by rw [hq'])) rfl rfl rfl rfl ?_
      repeat (first | refine run_S ?_ | refine w_box (fun _ => ?_) | refine w_al (fun _ => ?_))
      exact sk_ret [] sym rfl (.cons (.tmp rfl) .nil) uc sb (.inl rfl) rfl
    · have hno : ∀ q', qfmt q' ≠ s := fun q' h => hq ⟨q', h⟩
      obtain ⟨rfl, rfl⟩ := x0 hno
      obtain rfl := y0 hno
      repeat (first | refine run_S ?_ | refine w_box (fun _ => ?_) | refine w_al (fun _ => ?_))
      refine sl_gdec rfl rfl (fun _ => ?_) (fun h => absurd rfl h)
      repeat (first | refine run_S ?_ | refine w_box (fun _ => ?_) | refine w_al (fun _ => ?_))
      refine sl_call rfl rfl rfl rfl rfl rfl (fun _ => none2_ct) ?_
      rintro v U' D hU ⟨rfl, rfl, rfl⟩
      repeat (first | refine run_S ?_ | refine w_box (fun _ => ?_) | refine w_al (fun _ => ?_))
      exact sk_ret [] sym rfl (.cons (.tmp rfl) .nil) uc sb (.inl rfl) rfl
  · repeat (first | refine run_S ?_ | refine w_box (fun _ => ?_) | refine w_al (fun _ => ?_))
    exact sk_ret [] sym rfl (.cons (.tmp rfl) .nil) uc sb (.inl rfl) rfl

end Go.Proofs.YtcndgdjelopmaaaGreat
