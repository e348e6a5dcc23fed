/- Texts of this seat's own, merged: each begins with its own remark. -/
import Derived.Test.YtlnmhjkagnfnaaaM18
import Derived.Test.YtlnmhjkagnfnaaaM10
import Derived.Test.YtlnmhjkagnfnaaaM8
import Derived.Test.YtlnmhjkagnfnaaaM5
import Derived.Test.YtlnmhjkagnfnaaaM7
import Derived.Test.YtlnmhjkagnfnaaaM14
/- Are two integers the same, digit by digit: the reference's Same, the helpers' SameInt. -/
namespace Go.Proofs.Ytlnmhjkagnfnaaa
open Go.Hp
variable {G : World} {U : UH} {M : MH}

theorem rSame_cd {x y : IV} {l1 l : List Nat} (hd1 : Dig U M x.p x.n x.c l1) (hd : Dig U M y.p y.n y.c l) :
    Ct Try.prog 10 [x.v, y.v] G U M fun v U' D => v = .bool (decide (x.neg = y.neg ∧ l1 = l)) ∧ U = U' ∧ D = [] := by
  obtain ⟨neg, p, n, c⟩ := y
  obtain ⟨neg1, p1, n1, c1⟩ := x
  simp only at hd hd1 ⊢
  have hl := hd.len
  have hl1 := hd1.len
  have h3 := hd.cap
  have h4 := hd.capm
  change Ct _ _ [Value.agg #[.bool neg1, .slice p1 n1 c1], Value.agg #[.bool neg, .slice p n c]] G U M _
  refine ct_of_st Try.func10 rfl rfl rfl rfl ?_
  repeat (first | refine run_S ?_ | refine w_box (fun _ => ?_) | refine w_al (fun _ => ?_))
  rename_i b2 b3
  refine sl_gb rfl rfl (fun h5 => ?_) (fun h5 => ?_)
  · have hne : neg1 ≠ neg := fun e => by rw [e] at h5; simp at h5
    repeat (first | refine run_S ?_ | refine w_box (fun _ => ?_) | refine w_al (fun _ => ?_))
    exact sk_ret [] sym rfl (.cons (.tmp rfl) .nil) (ULe.refl _) sb (.inl rfl) ⟨tup_f (fun h => hne h.1), rfl, rfl⟩
  have hnn : neg1 = neg := by cases neg1 <;> cases neg <;> simp at h5 ⊢
  repeat (first | refine run_S ?_ | refine w_box (fun _ => ?_) | refine w_al (fun _ => ?_))
  refine st_ne rfl (fun h6 => ?_) (fun h6 => ?_)
  · repeat (first | refine run_S ?_ | refine w_box (fun _ => ?_) | refine w_al (fun _ => ?_))
    exact sk_ret [] sym rfl (.cons (.tmp rfl) .nil) (ULe.refl _) sb (.inl rfl) ⟨tup_f (fun h => h6 (by rw [← hl, ← hl1, h.2])), rfl, rfl⟩
  have hn : n1 = n := by omega
  subst hn
  repeat (first | refine run_S ?_ | refine w_box (fun _ => ?_) | refine w_al (fun _ => ?_))
  refine st_loop (fun m E U' M' => ∃ (i : Nat), i ≤ n1 ∧ l1.take i = l.take i ∧ E = [(5, .int .i64 (i : Int)), (2, .pointer (some ⟨b2, 0, none⟩)), (3, .pointer (some ⟨b3, 0, none⟩))] ∧ U = U' ∧
      M' = (b3, .var (.agg #[.bool neg, .slice p n1 c]), 24) :: (b2, .var (.agg #[.bool neg1, .slice p1 n1 c1]), 24) :: M ∧ m = n1 - i) (n0 := n1)
    (E0 := [(5, .int .i64 ((0 : Nat) : Int)), (2, .pointer (some ⟨b2, 0, none⟩)), (3, .pointer (some ⟨b3, 0, none⟩))]) ⟨rfl, rfl, rfl, trivial⟩ ⟨0, by omega, rfl, rfl, rfl, rfl, rfl⟩ ?_
  rintro m E U' M' ⟨i, hi, ht, rfl, rfl, rfl, rfl⟩
  try refine run_s ?_
  refine st_dec rfl (fun h5 => ?_) (fun h5 => ?_)
  · obtain ⟨d, hdd, hbd, hp1, hc1⟩ := (hd1.up (U' := U) (ULe.refl _) (M' := (b3, .var (.agg #[.bool neg, .slice p n1 c]), 24) :: (b2, .var (.agg #[.bool neg1, .slice p1 n1 c1]), 24) :: M) sb).get (k := i) (by omega)
    obtain ⟨d2, hdd2, hbd2, hp2, hc2⟩ := (hd.up (U' := U) (ULe.refl _) (M' := (b3, .var (.agg #[.bool neg, .slice p n1 c]), 24) :: (b2, .var (.agg #[.bool neg1, .slice p1 n1 c1]), 24) :: M) sb).get (k := i) (by omega)
    try refine run_s ?_
    refine st_draw [0, 1, 2, 3, 4, 5, 6, 7, 8, 9, 10] sym (by kernel_rfl) ?_
    try refine run_s ?_
    refine sl_y (yl_index1 sym rfl rfl rfl rfl rfl rfl (by omega) hp1) rfl rfl rfl rfl ?_; refine sl_y (yl_loadD sym rfl rfl rfl rfl hc1) rfl rfl rfl rfl ?_
    try refine run_s ?_
    refine sl_y (yl_index1 sym rfl rfl rfl rfl rfl rfl (by omega) hp2) rfl rfl rfl rfl ?_; refine sl_y (yl_loadD sym rfl rfl rfl rfl hc2) rfl rfl rfl rfl ?_
    try refine run_s ?_
    refine st_ne rfl (fun h7 => ?_) (fun h7 => ?_)
    · have hne : l1 ≠ l := fun e => h7 (by rw [e, hdd2] at hdd; cases hdd; rfl)
      try refine run_s ?_
      exact sk_ret [] sym rfl (.cons (.tmp rfl) .nil) (ULe.refl _) sb (.inl rfl) ⟨tup_f (fun h => hne h.2), rfl, rfl⟩
    have hdd3 : d = d2 := by omega
    subst hdd3
    try refine run_s ?_
    exact sk_again (E' := [(5, .int .i64 ((i : Int) + 1)), (2, .pointer (some ⟨b2, 0, none⟩)), (3, .pointer (some ⟨b3, 0, none⟩))]) (m := n1 - (i + 1)) ⟨rfl, rfl, rfl, trivial⟩ (by omega) ⟨i + 1, by omega, by rw [List.take_add_one, List.take_add_one, ht, hdd, hdd2], rfl, rfl, rfl, rfl⟩
  · have hll : l1 = l := by rwa [List.take_of_length_le (by omega), List.take_of_length_le (by omega)] at ht
    try refine run_s ?_
    exact sk_ret [] sym rfl (.cons (.tmp rfl) .nil) (ULe.refl _) sb (.inl rfl) ⟨tup_t ⟨hnn, hll⟩, rfl, rfl⟩

theorem rSame_cz {x y : IV} {z w : Int} (hx : x.nrm U M z) (hy : y.nrm U M w) :
    Ct Try.prog 10 [x.v, y.v] G U M fun v U' D => v = .bool (decide (z = w)) ∧ U = U' ∧ D = [] := by
  obtain ⟨l1, hd1, hc1, hv1, hn1⟩ := hx
  obtain ⟨l, hd, hc, hv, hn⟩ := hy
  refine (rSame_cd hd1 hd).mono ?_
  rintro v U' D hU ⟨rfl, rfl, rfl⟩
  refine ⟨congrArg Value.bool (decide_eq_decide.2 ⟨fun ⟨h1, h2⟩ => ?_, fun h => ?_⟩), rfl, rfl⟩
  · subst h2
    have h3 : z.natAbs = w.natAbs := by rw [← hv1, ← hv]
    rw [hn1, hn] at h1
    have := decide_eq_decide.1 h1
    omega
  · subst h
    exact ⟨by rw [hn1, hn], hc1.inj hc (by rw [hv1, hv])⟩

theorem bSame_cd {x y : IV} {l1 l : List Nat} (hd1 : Dig U M x.p x.n x.c l1) (hd : Dig U M y.p y.n y.c l) :
    Ct Try.prog 52 [x.v, y.v] G U M fun v U' D => v = .bool (decide (x.neg = y.neg ∧ l1 = l)) ∧ U = U' ∧ D = [] := by
  obtain ⟨neg, p, n, c⟩ := y
  obtain ⟨neg1, p1, n1, c1⟩ := x
  simp only at hd hd1 ⊢
  have hl := hd.len
  have hl1 := hd1.len
  have h3 := hd.cap
  have h4 := hd.capm
  change Ct _ _ [Value.agg #[.bool neg1, .slice p1 n1 c1], Value.agg #[.bool neg, .slice p n c]] G U M _
  refine ct_of_st Try.func52 rfl rfl rfl rfl ?_
  repeat (first | refine run_S ?_ | refine w_box (fun _ => ?_) | refine w_al (fun _ => ?_))
  rename_i b2 b3
  refine sl_gb rfl rfl (fun h5 => ?_) (fun h5 => ?_)
  · have hne : neg1 ≠ neg := fun e => by rw [e] at h5; simp at h5
    repeat (first | refine run_S ?_ | refine w_box (fun _ => ?_) | refine w_al (fun _ => ?_))
    exact sk_ret [] sym rfl (.cons (.tmp rfl) .nil) (ULe.refl _) sb (.inl rfl) ⟨tup_f (fun h => hne h.1), rfl, rfl⟩
  have hnn : neg1 = neg := by cases neg1 <;> cases neg <;> simp at h5 ⊢
  repeat (first | refine run_S ?_ | refine w_box (fun _ => ?_) | refine w_al (fun _ => ?_))
  refine st_ne rfl (fun h6 => ?_) (fun h6 => ?_)
  · repeat (first | refine run_S ?_ | refine w_box (fun _ => ?_) | refine w_al (fun _ => ?_))
    exact sk_ret [] sym rfl (.cons (.tmp rfl) .nil) (ULe.refl _) sb (.inl rfl) ⟨tup_f (fun h => h6 (by rw [← hl, ← hl1, h.2])), rfl, rfl⟩
  have hn : n1 = n := by omega
  subst hn
  repeat (first | refine run_S ?_ | refine w_box (fun _ => ?_) | refine w_al (fun _ => ?_))
  refine st_loop (fun m E U' M' => ∃ (i : Nat), i ≤ n1 ∧ l1.take i = l.take i ∧ E = [(5, .int .i64 (i : Int)), (2, .pointer (some ⟨b2, 0, none⟩)), (3, .pointer (some ⟨b3, 0, none⟩))] ∧ U = U' ∧
      M' = (b3, .var (.agg #[.bool neg, .slice p n1 c]), 24) :: (b2, .var (.agg #[.bool neg1, .slice p1 n1 c1]), 24) :: M ∧ m = n1 - i) (n0 := n1)
    (E0 := [(5, .int .i64 ((0 : Nat) : Int)), (2, .pointer (some ⟨b2, 0, none⟩)), (3, .pointer (some ⟨b3, 0, none⟩))]) ⟨rfl, rfl, rfl, trivial⟩ ⟨0, by omega, rfl, rfl, rfl, rfl, rfl⟩ ?_
  rintro m E U' M' ⟨i, hi, ht, rfl, rfl, rfl, rfl⟩
  try refine run_s ?_
  refine st_dec rfl (fun h5 => ?_) (fun h5 => ?_)
  · obtain ⟨d, hdd, hbd, hp1, hc1⟩ := (hd1.up (U' := U) (ULe.refl _) (M' := (b3, .var (.agg #[.bool neg, .slice p n1 c]), 24) :: (b2, .var (.agg #[.bool neg1, .slice p1 n1 c1]), 24) :: M) sb).get (k := i) (by omega)
    obtain ⟨d2, hdd2, hbd2, hp2, hc2⟩ := (hd.up (U' := U) (ULe.refl _) (M' := (b3, .var (.agg #[.bool neg, .slice p n1 c]), 24) :: (b2, .var (.agg #[.bool neg1, .slice p1 n1 c1]), 24) :: M) sb).get (k := i) (by omega)
    try refine run_s ?_
    refine st_draw [0, 1, 2, 3, 4, 5, 6, 7, 8, 9, 10] sym (by kernel_rfl) ?_
    try refine run_s ?_
    refine sl_y (yl_index1 sym rfl rfl rfl rfl rfl rfl (by omega) hp1) rfl rfl rfl rfl ?_; refine sl_y (yl_loadD sym rfl rfl rfl rfl hc1) rfl rfl rfl rfl ?_
    try refine run_s ?_
    refine sl_y (yl_index1 sym rfl rfl rfl rfl rfl rfl (by omega) hp2) rfl rfl rfl rfl ?_; refine sl_y (yl_loadD sym rfl rfl rfl rfl hc2) rfl rfl rfl rfl ?_
    try refine run_s ?_
    refine st_ne rfl (fun h7 => ?_) (fun h7 => ?_)
    · have hne : l1 ≠ l := fun e => h7 (by rw [e, hdd2] at hdd; cases hdd; rfl)
      try refine run_s ?_
      exact sk_ret [] sym rfl (.cons (.tmp rfl) .nil) (ULe.refl _) sb (.inl rfl) ⟨tup_f (fun h => hne h.2), rfl, rfl⟩
    have hdd3 : d = d2 := by omega
    subst hdd3
    try refine run_s ?_
    exact sk_again (E' := [(5, .int .i64 ((i : Int) + 1)), (2, .pointer (some ⟨b2, 0, none⟩)), (3, .pointer (some ⟨b3, 0, none⟩))]) (m := n1 - (i + 1)) ⟨rfl, rfl, rfl, trivial⟩ (by omega) ⟨i + 1, by omega, by rw [List.take_add_one, List.take_add_one, ht, hdd, hdd2], rfl, rfl, rfl, rfl⟩
  · have hll : l1 = l := by rwa [List.take_of_length_le (by omega), List.take_of_length_le (by omega)] at ht
    try refine run_s ?_
    exact sk_ret [] sym rfl (.cons (.tmp rfl) .nil) (ULe.refl _) sb (.inl rfl) ⟨tup_t ⟨hnn, hll⟩, rfl, rfl⟩

theorem bSame_cz {x y : IV} {z w : Int} (hx : x.nrm U M z) (hy : y.nrm U M w) :
    Ct Try.prog 52 [x.v, y.v] G U M fun v U' D => v = .bool (decide (z = w)) ∧ U = U' ∧ D = [] := by
  obtain ⟨l1, hd1, hc1, hv1, hn1⟩ := hx
  obtain ⟨l, hd, hc, hv, hn⟩ := hy
  refine (bSame_cd hd1 hd).mono ?_
  rintro v U' D hU ⟨rfl, rfl, rfl⟩
  refine ⟨congrArg Value.bool (decide_eq_decide.2 ⟨fun ⟨h1, h2⟩ => ?_, fun h => ?_⟩), rfl, rfl⟩
  · subst h2
    have h3 : z.natAbs = w.natAbs := by rw [← hv1, ← hv]
    rw [hn1, hn] at h1
    have := decide_eq_decide.1 h1
    omega
  · subst h
    exact ⟨by rw [hn1, hn], hc1.inj hc (by rw [hv1, hv])⟩

end Go.Proofs.Ytlnmhjkagnfnaaa

/- Walks of the reference of layer 2: fractions in lowest terms, conversions, signs. -/
namespace Go.Proofs.Ytlnmhjkagnfnaaa
open Go.Hp
variable {G : World} {U : UH} {M : MH}

theorem rqOf_ct {z : Int} (h0 : -9223372036854775808 ≤ z) (h1 : z ≤ 9223372036854775807) :
    Ct Try.prog 53 [.int .i64 z] G U M fun v U' D => ∃ r : QV, v = r.v ∧ r.nrm U' [] (z : Rat) ∧ D = [] := by
  refine ct_of_st Try.func53 rfl rfl rfl rfl ?_
  repeat (first | refine run_S ?_ | refine w_box (fun _ => ?_) | refine w_al (fun _ => ?_))
  refine sl_call rfl rfl rfl rfl rfl rfl (fun _ => (rOf_ct h0 h1).settle) ?_
  rintro v Uh2 D hU ⟨rfl, _, _, ⟨xh2, rfl, h2, -⟩, -, -, hs⟩
  replace h2 := h2.sett hs
  clear hs
  repeat (first | refine run_S ?_ | refine w_box (fun _ => ?_) | refine w_al (fun _ => ?_))
  refine sl_call rfl rfl rfl rfl rfl rfl (fun _ => (rOf_ct (z := 1) (by decide) (by decide)).settle) ?_
  rintro v Uh3 D hU ⟨rfl, _, _, ⟨xh3, rfl, h3, -⟩, -, -, hs⟩
  replace h3 := h3.sett hs
  clear hs
  repeat (first | refine run_S ?_ | refine w_box (fun _ => ?_) | refine w_al (fun _ => ?_))
  exact sk_ret [] sym rfl (.cons (.cell 0 rfl rfl rfl) .nil) uc sb (.inl rfl) ⟨⟨xh2, xh3⟩, rfl, ⟨h2.up uc sb, h3⟩, rfl⟩

/-- Are two normalized fractions the same? -/
theorem rqSame_ct {x y : QV} {p q : Rat} (hx : x.nrm U M p) (hy : y.nrm U M q) :
    Ct Try.prog 17 [x.v, y.v] G U M fun v U' D => v = .bool (decide (p = q)) ∧ U = U' ∧ D = [] := by
  refine ct_of_st Try.func17 rfl rfl rfl rfl ?_
  repeat (first | refine run_S ?_ | refine w_box (fun _ => ?_) | refine w_al (fun _ => ?_))
  refine sl_call rfl rfl rfl rfl rfl rfl (fun _ => rSame_cz (hx.1.up uc sb) (hy.1.up uc sb)) ?_
  rintro v U' D hU ⟨rfl, rfl, rfl⟩
  repeat (first | refine run_S ?_ | refine w_box (fun _ => ?_) | refine w_al (fun _ => ?_))
  by_cases h : p.num = q.num
  · rw [decide_eq_true h]
    repeat (first | refine run_S ?_ | refine w_box (fun _ => ?_) | refine w_al (fun _ => ?_))
    refine sl_call rfl rfl rfl rfl rfl rfl (fun _ => rSame_cz (hx.2.up uc sb) (hy.2.up uc sb)) ?_
    rintro v U' D hU ⟨rfl, rfl, rfl⟩
    repeat (first | refine run_S ?_ | refine w_box (fun _ => ?_) | refine w_al (fun _ => ?_))
    by_cases h2 : (p.den : Int) = (q.den : Int)
    · rw [decide_eq_true h2]
      exact sk_ret [] sym rfl (.cons (.tmp rfl) .nil) uc sb (.inl rfl) ⟨tup_t (Rat.ext h (by omega)), rfl, rfl⟩
    · rw [decide_eq_false h2]
      exact sk_ret [] sym rfl (.cons (.tmp rfl) .nil) uc sb (.inl rfl) ⟨tup_f (fun e => h2 (by rw [e])), rfl, rfl⟩
  · rw [decide_eq_false h]
    repeat (first | refine run_S ?_ | refine w_box (fun _ => ?_) | refine w_al (fun _ => ?_))
    exact sk_ret [] sym rfl (.cons (.tmp rfl) .nil) uc sb (.inl rfl) ⟨tup_f (fun e => h (by rw [e])), rfl, rfl⟩

end Go.Proofs.Ytlnmhjkagnfnaaa

/- Walks of the reference of layer 2: sums, products, quotients, comparison, digits, neighboring integers. -/
namespace Go.Proofs.Ytlnmhjkagnfnaaa
open Go.Hp
variable {G : World} {U : UH} {M : MH}

end Go.Proofs.Ytlnmhjkagnfnaaa
