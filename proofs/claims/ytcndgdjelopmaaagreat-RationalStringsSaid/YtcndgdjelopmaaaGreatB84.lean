/- Walks of rational and its reference: decimal forms, read; the law on them. -/
import Derived.Test.YtcndgdjelopmaaaGreatB83
import Derived.Test.YtcndgdjelopmaaaGreatM13
import Derived.Test.YtcndgdjelopmaaaGreatB75
namespace Go.Proofs.YtcndgdjelopmaaaGreat
open Go.Hp
variable {G : World} {U : UH} {M : MH}

theorem fmt_no47 (z : Int) : 47 ∉ fmt z := by
  intro h
  unfold fmt at h
  rcases List.mem_append.1 h with h | h
  · split at h
    · simp at h
    · cases h
  · obtain ⟨d, _, hd⟩ := List.mem_map.1 (List.mem_reverse.1 h)
    omega
theorem cut_inj : ∀ {b b' a a' : List Nat}, b ++ 47 :: a = b' ++ 47 :: a' → 47 ∉ b → 47 ∉ b' → b = b' ∧ a = a'
  | [], [], a, a', h, _, _ => by simp at h; exact ⟨rfl, h⟩
  | [], y :: b', a, a', h, _, h2 => by simp at h; exact absurd h.1 (by simp at h2; omega)
  | x :: b, [], a, a', h, h1, _ => by simp at h; exact absurd h.1 (by simp at h1; omega)
  | x :: b, y :: b', a, a', h, h1, h2 => by
    simp at h h1 h2
    obtain ⟨e1, e2⟩ := cut_inj (b := b) (b' := b') h.2 h1.2 h2.2
    exact ⟨by rw [h.1, e1], e2⟩

/-- What a string says: the fraction of which it is the decimal form. -/
theorem qfmt_cut {q : Rat} {s : List Nat} (h : qfmt q = s) : (47 ∉ s ∧ q.den = 1 ∧ s = fmt q.num) ∨ (q.den ≠ 1 ∧ s = fmt q.num ++ 47 :: fmt (q.den : Int)) := by
  unfold qfmt at h
  by_cases hd : q.den = 1
  · rw [if_pos hd, List.append_nil] at h
    subst h
    exact .inl ⟨fmt_no47 _, hd, rfl⟩
  · rw [if_neg hd] at h
    exact .inr ⟨hd, h.symm⟩
theorem qfmt_inj {p q : Rat} (h : qfmt p = qfmt q) : p = q := by
  rcases qfmt_cut h with ⟨h1, h2, h3⟩ | ⟨h2, h3⟩ <;> rcases qfmt_cut (rfl : qfmt q = qfmt q) with ⟨g1, g2, g3⟩ | ⟨g2, g3⟩
  · have e := g3.symm.trans h3
    have := congrArg pv e
    rw [(fmt_good _).2, (fmt_good _).2] at this
    exact Rat.ext this.symm (by omega)
  · exact absurd (by rw [g3]; simp) h1
  · exact absurd (by rw [h3]; simp) g1
  · obtain ⟨e1, e2⟩ := cut_inj (g3.symm.trans h3) (fmt_no47 _) (fmt_no47 _)
    have a1 := congrArg pv e1
    have a2 := congrArg pv e2
    rw [(fmt_good _).2, (fmt_good _).2] at a1 a2
    exact Rat.ext a1.symm (by omega)
theorem pv_one : pv [49] = 1 ∧ Good [49] := ⟨by decide, by decide, by decide, by decide⟩

theorem qfmt_byte (q : Rat) : ∀ c ∈ qfmt q, c < 256 := by
  have hb : ∀ z : Int, ∀ c ∈ fmt z, c < 256 := by
    intro z c hc
    unfold fmt at hc
    rcases List.mem_append.1 hc with h | h
    · split at h
      · rw [List.mem_singleton.1 h]; decide
      · cases h
    · obtain ⟨d, hd, rfl⟩ := List.mem_map.1 (List.mem_reverse.1 h)
      have := (dl_spec z.natAbs).1 d hd
      omega
  intro c hc
  unfold qfmt at hc
  rcases List.mem_append.1 hc with h | h
  · exact hb _ c h
  · split at h
    · cases h
    · rcases List.mem_cons.1 h with rfl | h
      · decide
      · exact hb _ c h

theorem sz_pv {s : List Nat} (hg : Good s) {k : Nat} (hk : s.length ≤ k) : Sz (pv s) k := by
  have hb57 : ∀ c ∈ body s, c ≤ 57 := fun c hc => (hg.2.2 c hc).2
  have hbl : (body s).length ≤ k := by
    unfold body
    split
    · rw [List.length_tail]; omega
    · omega
  have := (sz_dv hb57).mono hbl
  unfold pv sg
  split
  · exact this.neg
  · exact this

theorem divInt_pv_one {n : Int} : Rat.divInt n 1 = (n : Rat) := Rat.ext over_one.1 (by have := (over_one (n := n)).2; rw [Rat.den_intCast]; omega)

theorem qParse_ct {s : List Nat} (hs : ∀ c ∈ s, c < 256) (hn : s.length ≤ 100000) :
    Ct Tryz.prog 7 [.string (bstr s)] G U M fun v U' D => ∃ (r : QV) (e : Int), v = .tuple #[r.v, .int .i64 e] ∧ (∀ q, qfmt q = s → e = 0 ∧ r.nrm U' [] q) ∧ ((∀ q, qfmt q ≠ s) → e = 19 ∧ r = zeroQV) ∧ D = [] := by
  refine ct_of_st Tryz.func7 rfl rfl rfl rfl ?_
  repeat (first | refine run_S ?_ | refine w_box (fun _ => ?_) | refine w_al (fun _ => ?_))
  rename_i b2
  refine sl_call rfl rfl rfl rfl rfl rfl (fun _ => Cut_ct hs (by omega)) ?_
  rintro v U' D hU ⟨hv, rfl, rfl⟩
  have hbad : ∀ {b a : List Nat}, s = b ++ 47 :: a → 47 ∉ b → ¬ (Good b ∧ Good a) → ∀ q, qfmt q ≠ s := by
    intro b a h1 h2 h3 q hq
    rcases qfmt_cut hq with ⟨g1, -, -⟩ | ⟨-, g3⟩
    · exact g1 (by rw [h1]; simp)
    · rw [h1] at g3
      obtain ⟨rfl, rfl⟩ := cut_inj g3 h2 (fmt_no47 _)
      exact h3 ⟨(fmt_good _).1, (fmt_good _).1⟩
  have hbad1 : 47 ∉ s → ¬ Good s → ∀ q, qfmt q ≠ s := by
    intro h1 h2 q hq
    rcases qfmt_cut hq with ⟨-, -, g3⟩ | ⟨-, g3⟩
    · rw [g3] at h2; exact h2 (fmt_good _).1
    · exact h1 (by rw [g3]; simp)
  have hcut : ∃ b a : List Nat, ∃ f : Bool, v = .tuple #[.string (bstr b), .string (bstr a), .bool f] ∧ (f = false → 47 ∉ s ∧ b = s) ∧ (f = true → s = b ++ 47 :: a ∧ 47 ∉ b) := by
    rcases hv with ⟨h1, rfl⟩ | ⟨b, a, h1, h2, rfl⟩
    · exact ⟨s, [], false, rfl, fun _ => ⟨h1, rfl⟩, fun h => by cases h⟩
    · exact ⟨b, a, true, rfl, (fun h => by cases h), fun _ => ⟨h1, h2⟩⟩
  clear hv
  obtain ⟨b, a, f, rfl, hf0, hf1⟩ := hcut
  repeat (first | refine run_O ?_ | refine w_box (fun _ => ?_) | refine w_al (fun _ => ?_))
  refine st_seq_cut (fun E U' M' => ∃ a' : List Nat, (f = false → a' = [49]) ∧ (f = true → a' = a) ∧ E = [(4, .string (bstr b)), (5, .string (bstr a')), (0, .string (bstr s)), (2, .pointer (some ⟨b2, 0, none⟩))] ∧ U = U' ∧ M' = (b2, .var zeroQV.v, 26) :: M) ?_ ?_
  · cases f
    · repeat (first | refine run_S ?_ | refine w_box (fun _ => ?_) | refine w_al (fun _ => ?_))
      exact sk_cut (E' := [(4, .string (bstr b)), (5, .string (bstr [49])), (0, .string (bstr s)), (2, .pointer (some ⟨b2, 0, none⟩))]) ⟨rfl, rfl, rfl, rfl, trivial⟩ ⟨[49], fun _ => rfl, (fun h => by cases h), rfl, rfl, rfl⟩
    · repeat (first | refine run_S ?_ | refine w_box (fun _ => ?_) | refine w_al (fun _ => ?_))
      exact sk_cut (E' := [(4, .string (bstr b)), (5, .string (bstr a)), (0, .string (bstr s)), (2, .pointer (some ⟨b2, 0, none⟩))]) ⟨rfl, rfl, rfl, rfl, trivial⟩ ⟨a, (fun h => by cases h), fun _ => rfl, rfl, rfl, rfl⟩
  · rintro E U' M' ⟨a', ha0, ha1, rfl, rfl, rfl⟩
    have hb : ∀ c ∈ b, c < 256 := fun c hc => by
      cases f
      · rw [(hf0 rfl).2] at hc; exact hs c hc
      · exact hs c (by rw [(hf1 rfl).1]; simp [hc])
    have ha : ∀ c ∈ a', c < 256 := fun c hc => by
      cases f
      · rw [ha0 rfl] at hc; rw [List.mem_singleton.1 hc]; decide
      · rw [ha1 rfl] at hc; exact hs c (by rw [(hf1 rfl).1]; simp [hc])
    have hbl : b.length ≤ 100000 := by
      cases f
      · rw [(hf0 rfl).2]; exact hn
      · have := congrArg List.length (hf1 rfl).1; simp at this; omega
    have hal : a'.length ≤ 100000 := by
      cases f
      · rw [ha0 rfl]; simp
      · rw [ha1 rfl]; have := congrArg List.length (hf1 rfl).1; simp at this; omega
    have hno : ¬ (Good b ∧ Good a') → ∀ q, qfmt q ≠ s := fun h => by
      cases f
      · rw [ha0 rfl, (hf0 rfl).2] at h
        exact hbad1 (hf0 rfl).1 (fun g => h ⟨g, pv_one.2⟩)
      · rw [ha1 rfl] at h
        exact hbad (hf1 rfl).1 (hf1 rfl).2 h
    repeat (first | refine run_S ?_ | refine w_box (fun _ => ?_) | refine w_al (fun _ => ?_))
    refine sl_call rfl rfl rfl rfl rfl rfl (fun _ => (Parse_ct hb (by omega)).settle) ?_
    rintro v U3 D hU3 ⟨rfl, _, _, ⟨x, e, rfl, hg, hn0, -⟩, -, -, hs3⟩
    by_cases gb : Good b
    · obtain ⟨rfl, hx⟩ := hg gb
      replace hx := hx.sett hs3
      have sx := sz_pv gb hbl
      repeat (first | refine run_S ?_ | refine w_box (fun _ => ?_) | refine w_al (fun _ => ?_))
      refine st_dec rfl (fun h => absurd rfl h) (fun _ => ?_)
      repeat (first | refine run_S ?_ | refine w_box (fun _ => ?_) | refine w_al (fun _ => ?_))
      refine sl_call rfl rfl rfl rfl rfl rfl (fun _ => (Parse_ct ha (by omega)).settle) ?_
      rintro v U4 D hU4 ⟨rfl, _, _, ⟨y, e, rfl, hg', hn', -⟩, -, -, hs4⟩
      by_cases ga : Good a'
      · obtain ⟨rfl, hy⟩ := hg' ga
        replace hy := hy.sett hs4
        have sy := sz_pv ga hal
        repeat (first | refine run_S ?_ | refine w_box (fun _ => ?_) | refine w_al (fun _ => ?_))
        refine st_dec rfl (fun h => absurd rfl h) (fun _ => ?_)
        repeat (first | refine run_S ?_ | refine w_box (fun _ => ?_) | refine w_al (fun _ => ?_))
        refine sl_call rfl rfl rfl rfl rfl rfl (fun _ => (over_ct (hx.rep.up uc sb) (hx.le (sx) (by omega)) (hy.rep.up uc sb) (hy.le (sy) (by omega))).settle) ?_
        rintro v Uh5 D hU ⟨rfl, _, _, ⟨xh5, rfl, h5, -⟩, -, -, hs⟩
        replace h5 := h5.sett hs
        clear hs
        repeat (first | refine run_S ?_ | refine w_box (fun _ => ?_) | refine w_al (fun _ => ?_))
        have sq := szq_div (sx.mono (k := 100001) (by omega)) (sy.mono (k := 100001) (by omega)) (by omega)
        refine sl_call rfl rfl rfl rfl rfl rfl (fun _ => qFormat_ct (h5.rep.up uc sb) (h5.le (sq) (by omega))) ?_
        rintro v _ D hU ⟨rfl, -, rfl⟩
        repeat (first | refine run_S ?_ | refine w_box (fun _ => ?_) | refine w_al (fun _ => ?_))
        have hval : ∀ q, qfmt q = s → q = Rat.divInt (pv b) (pv a') := by
          intro q hq
          rcases qfmt_cut hq with ⟨g1, g2, g3⟩ | ⟨g2, g3⟩
          · cases f
            · rw [ha0 rfl, pv_one.1, (hf0 rfl).2, g3, (fmt_good _).2, divInt_pv_one]
              exact rat_eq_num' g2
            · exact absurd (by rw [(hf1 rfl).1]; simp) g1
          · cases f
            · exact absurd (by rw [g3]; simp) (hf0 rfl).1
            · rw [(hf1 rfl).1] at g3
              obtain ⟨e1, e2⟩ := cut_inj g3 (hf1 rfl).2 (fmt_no47 _)
              rw [ha1 rfl, e1, e2, (fmt_good _).2, (fmt_good _).2, rat_self]
        by_cases hq : qfmt (Rat.divInt (pv b) (pv a')) = s
        · refine sl_y (yl_streq rfl rfl rfl (by rw [hq])) rfl rfl rfl rfl ?_
          repeat (first | refine run_S ?_ | refine w_box (fun _ => ?_) | refine w_al (fun _ => ?_))
          refine sk_ret [] sym rfl (.cons (.cell 3 rfl rfl rfl) (.cons (.tmp rfl) .nil)) uc sb (.inl rfl) ⟨xh5, 0, rfl, fun q h => ⟨rfl, by rw [hval q h]; exact h5.up uc sb⟩, fun h => absurd hq (h _), rfl⟩
        · refine sl_y (yl_streq' rfl rfl rfl (fun e => hq (bstr_inj (qfmt_byte _) hs e))) rfl rfl rfl rfl ?_
          repeat (first | refine run_S ?_ | refine w_box (fun _ => ?_) | refine w_al (fun _ => ?_))
          refine sk_ret [] sym rfl (.cons (.cell 3 rfl rfl rfl) (.cons (.tmp rfl) .nil)) uc sb (.inl rfl) ⟨zeroQV, 19, rfl, fun q h => absurd (by rw [← hval q h]; exact h) hq, fun _ => ⟨rfl, rfl⟩, rfl⟩
      · obtain ⟨rfl, rfl, -⟩ := hn' ga
        repeat (first | refine run_S ?_ | refine w_box (fun _ => ?_) | refine w_al (fun _ => ?_))
        refine st_dec rfl (fun _ => ?_) (fun h => absurd (by decide) h)
        repeat (first | refine run_S ?_ | refine w_box (fun _ => ?_) | refine w_al (fun _ => ?_))
        exact sk_ret [] sym rfl (.cons (.cell 2 rfl rfl rfl) (.cons (.tmp rfl) .nil)) uc sb (.inl rfl) ⟨zeroQV, 19, rfl, fun q h => absurd h (hno (fun g => ga g.2) q), fun _ => ⟨rfl, rfl⟩, rfl⟩
    · obtain ⟨rfl, rfl, -⟩ := hn0 gb
      repeat (first | refine run_S ?_ | refine w_box (fun _ => ?_) | refine w_al (fun _ => ?_))
      refine st_dec rfl (fun _ => ?_) (fun h => absurd (by decide) h)
      repeat (first | refine run_S ?_ | refine w_box (fun _ => ?_) | refine w_al (fun _ => ?_))
      exact sk_ret [] sym rfl (.cons (.cell 1 rfl rfl rfl) (.cons (.tmp rfl) .nil)) uc sb (.inl rfl) ⟨zeroQV, 19, rfl, fun q h => absurd h (hno (fun g => gb g.1) q), fun _ => ⟨rfl, rfl⟩, rfl⟩

end Go.Proofs.YtcndgdjelopmaaaGreat
