/- Texts of this seat's own, merged: each begins with its own remark. -/
import Derived.Test.YtlnmhjkagnfnaaaM18
import Derived.Test.YtlnmhjkagnfnaaaM4
import Derived.Test.YtlnmhjkagnfnaaaM6
/- Walks of rational: is it one; a fraction in lowest terms. -/
namespace Go.Proofs.Ytlnmhjkagnfnaaa
open Go.Hp
variable {G : World} {U : UH} {M : MH}

theorem one_cg {x : IV} {z : Int} (cn : Bool) (hx : x.rep U M z) (hcn : cn = true → x.nrm U M z) :
    Ct Try.prog 93 [x.v] G U M fun v _ D => ∃ b : Bool, v = .bool b ∧ (b = true → z = 1) ∧ (cn = true → b = decide (z = 1)) ∧ D = [] := by
  obtain ⟨neg, p, n, c⟩ := x
  obtain ⟨l, hd, hz⟩ := hx
  have hlen := hd.len
  simp only at hd hlen hz
  change Ct _ _ [Value.agg #[.bool neg, .slice p n c]] G U M _
  refine ct_of_st Try.func93 rfl rfl rfl rfl ?_
  repeat (first | refine run_S ?_ | refine w_box (fun _ => ?_) | refine w_al (fun _ => ?_))
  rename_i b1
  refine sl_gdec rfl rfl (fun h1 => ?_) (fun h1 => ?_)
  · have hn1 : n = 1 := by omega
    subst hn1
    obtain ⟨d, hdd, hbd, hp, hc⟩ := (hd.up (U' := U) (ULe.refl _) (M' := (b1, .var (.agg #[.bool neg, .slice p 1 c]), 24) :: M) sb).get (k := 0) (by omega)
    have hl : l = [d] := by
      obtain ⟨a, r, rfl⟩ := List.exists_cons_of_ne_nil (l := l) (fun e => by subst e; simp at hlen)
      have hr : r = [] := List.eq_nil_of_length_eq_zero (by simpa using hlen)
      subst hr
      simp at hdd; rw [hdd]
    have hv : val l = d := by rw [hl]; simp [val]
    rw [hv] at hz
    try refine run_s ?_
    refine sl_y (yl_index1 (j := 0) sym rfl rfl rfl rfl rfl rfl (by omega) hp) rfl rfl rfl rfl ?_
    refine sl_y (yl_loadD sym rfl rfl rfl rfl hc) rfl rfl rfl rfl ?_
    try refine run_s ?_
    refine sl_gdec rfl rfl (fun h2 => ?_) (fun h2 => ?_)
    · have hd1 : d = 1 := by omega
      subst hd1
      try refine run_s ?_
      cases neg
      · exact sk_ret [] sym rfl (.cons (.tmp rfl) .nil) uc sb (.inl rfl) ⟨true, rfl, fun _ => by rw [hz]; rfl, fun _ => by rw [hz]; rfl, rfl⟩
      · exact sk_ret [] sym rfl (.cons (.tmp rfl) .nil) uc sb (.inl rfl) ⟨false, rfl, (fun h => by cases h), fun _ => by rw [hz]; rfl, rfl⟩
    · have hne : z ≠ 1 := fun e => by
        rw [e] at hz
        clear h1
        cases neg
        · exact h2 hz.symm
        · simp [sg] at hz; omega
      try refine run_s ?_
      exact sk_ret [] sym rfl (.cons (.tmp rfl) .nil) uc sb (.inl rfl) ⟨false, rfl, (fun h => by cases h), fun _ => (decide_eq_false hne).symm, rfl⟩
  · try refine run_s ?_
    refine sk_ret [] sym rfl (.cons (.tmp rfl) .nil) uc sb (.inl rfl) ⟨false, rfl, (fun h => by cases h), fun hN => ?_, rfl⟩
    refine (decide_eq_false (fun e => h1 ?_)).symm
    obtain ⟨l', hd', hc', hv', -⟩ := hcn hN
    have : l' = [1] := hc'.inj (cn_one (by decide) (by decide)) (by rw [hv', e]; rfl)
    have := hd'.len
    simp only at this
    subst l'
    simp at this
    omega

theorem one_cn {x : IV} {z : Int} (hx : x.nrm U M z) :
    Ct Try.prog 93 [x.v] G U M fun v U' D => v = .bool (decide (z = 1)) ∧ ULe U U' ∧ D = [] :=
  (one_cg true hx.rep (fun _ => hx)).mono fun _ _ _ hU ⟨b, h1, _, h2, h3⟩ => ⟨by rw [h1, h2 rfl], hU, h3⟩

theorem over_ct {x y : IV} {n d : Int} (hx : x.rep U M n) (hn : x.n ≤ 274877906944) (hy : y.rep U M d) (hn' : y.n ≤ 274877906944) :
    Ct Try.prog 74 [x.v, y.v] G U M fun v U' D => ∃ r : QV, v = r.v ∧ r.own D (Rat.divInt n d) ∧ ULe U U' := by
  have sx := (hx.sz (Nat.le_refl _)).mono hn
  have sy := (hy.sz (Nat.le_refl _)).mono hn'
  refine ct_of_st Try.func74 rfl rfl rfl rfl ?_
  repeat (first | refine run_S ?_ | refine w_box (fun _ => ?_) | refine w_al (fun _ => ?_))
  rename_i b2 b3 b4
  refine st_draw [0, 2, 1, 3, 4, 5] sym (by kernel_rfl) ?_
  repeat (first | refine run_S ?_ | refine w_box (fun _ => ?_) | refine w_al (fun _ => ?_))
  refine sl_call rfl rfl rfl rfl rfl rfl (fun _ => Normal_ct (hx.up uc sb) (by omega)) ?_
  rintro v Uh1 Dh1 hU ⟨xh1, rfl, h1, -⟩
  refine sl_perm ?_ (perm3 (D := Dh1))
  repeat (first | refine run_S ?_ | refine w_box (fun _ => ?_) | refine w_al (fun _ => ?_))
  refine sl_call rfl rfl rfl rfl rfl rfl (fun _ => Normal_ct (hy.up uc sb) (by omega)) ?_
  rintro v Uh2 Dh2 hU ⟨xh2, rfl, h2, -⟩
  refine sl_perm ?_ (perm3 (D := Dh2))
  repeat (first | refine run_O ?_ | refine w_box (fun _ => ?_) | refine w_al (fun _ => ?_))
  refine st_seq_cut (fun E U' M' => ∃ (u w : IV) (n' d' : Int) (Dn Dd X : MH), u.own Dn n' ∧ w.own Dd d' ∧ 0 < d' ∧ Sz n' 274877906944 ∧ Sz d' 274877906944 ∧ Rat.divInt n d = Rat.divInt n' d' ∧ M.Sublist X ∧
    E = [(2, .pointer (some ⟨b2, 0, none⟩)), (3, .pointer (some ⟨b3, 0, none⟩)), (4, .pointer (some ⟨b4, 0, none⟩))] ∧ ULe U U' ∧ M' = (b4, .var zeroQV.v, 26) :: (b3, .var w.v, 24) :: (b2, .var u.v, 24) :: (Dd ++ (Dn ++ X))) ?_ ?_
  · have h2c := h2
    obtain ⟨neg2, p2, n2, c2⟩ := xh2
    obtain ⟨l2, ho2, hc2, hv2, hneg2⟩ := h2c
    have h1c := h1
    obtain ⟨neg1, p1, n1, c1⟩ := xh1
    obtain ⟨l1, ho1, hc1, hv1, hneg1⟩ := h1c
    simp only at ho1 ho2 hneg1 hneg2
    have hl1 := ho1.len
    have hl2 := ho2.len
    try refine run_s ?_
    refine sl_gdec rfl rfl (fun h3 => ?_) (fun h3 => ?_) <;> simp only at h3
    · have hd0 : d = 0 := by
        have : l2 = [] := List.eq_nil_of_length_eq_zero (by omega)
        rw [this] at hv2
        simp [val] at hv2
        omega
      repeat (first | refine run_S ?_ | refine w_box (fun _ => ?_) | refine w_al (fun _ => ?_))
      refine sl_call rfl rfl rfl rfl rfl rfl (fun _ => Of_ct (z := 1) (by decide) (by decide)) ?_
      rintro v Uh4 Dh4 hU ⟨xh4, rfl, h4, -⟩
      refine sl_perm ?_ (perm3 (D := Dh4))
      repeat (first | refine run_S ?_ | refine w_box (fun _ => ?_) | refine w_al (fun _ => ?_))
      exact sk_ret Dh4 sym rfl (.cons (.cell 0 rfl rfl rfl) .nil) uc sb (.inl rfl) ⟨⟨zeroIV0, xh4⟩, rfl, by rw [hd0, Rat.divInt_zero]; exact ⟨[], Dh4, by simp, zeroIV0_own, h4⟩, uc⟩
    · try refine run_s ?_
      refine st_eq rfl (fun h4 => ?_) (fun h4 => ?_) <;> simp only at h4
      · have hn0 : n = 0 := by
          have : l1 = [] := List.eq_nil_of_length_eq_zero (by omega)
          rw [this] at hv1
          simp [val] at hv1
          omega
        repeat (first | refine run_S ?_ | refine w_box (fun _ => ?_) | refine w_al (fun _ => ?_))
        refine sl_call rfl rfl rfl rfl rfl rfl (fun _ => Of_ct (z := 1) (by decide) (by decide)) ?_
        rintro v Uh5 Dh5 hU ⟨xh5, rfl, h5, -⟩
        refine sl_perm ?_ (perm3 (D := Dh5))
        repeat (first | refine run_S ?_ | refine w_box (fun _ => ?_) | refine w_al (fun _ => ?_))
        exact sk_ret Dh5 sym rfl (.cons (.cell 0 rfl rfl rfl) .nil) uc sb (.inl rfl) ⟨⟨zeroIV0, xh5⟩, rfl, by rw [hn0, Rat.zero_divInt]; exact ⟨[], Dh5, by simp, zeroIV0_own, h5⟩, uc⟩
      · have hd0 : d ≠ 0 := fun e => h3 (by
          rw [e] at hv2
          have := (hc2.zero).1 hv2
          rw [this] at hl2
          simp at hl2; omega)
        try refine run_s ?_
        refine st_cond rfl (fun h5 => ?_) (fun h5 => ?_) <;> simp only at h5
        · have hlt : d < 0 := by rw [h5] at hneg2; exact of_decide_eq_true hneg2.symm
          try refine run_s ?_
          refine st_draw [0, 2, 1, 3, 4, 5] sym (by kernel_rfl) ?_
          repeat (first | refine run_S ?_ | refine w_box (fun _ => ?_) | refine w_al (fun _ => ?_))
          refine sl_call rfl rfl rfl rfl rfl rfl (fun _ => Neg_ct (h1.at sb).rep (h1.le sx (by omega))) ?_
          rintro v Uh6 Dh6 hU ⟨xh6, rfl, h6, -⟩
          refine sl_perm ?_ (perm3 (D := Dh6))
          repeat (first | refine run_S ?_ | refine w_box (fun _ => ?_) | refine w_al (fun _ => ?_))
          refine sl_call rfl rfl rfl rfl rfl rfl (fun _ => Neg_ct (h2.at sb).rep (h2.le sy (by omega))) ?_
          rintro v Uh7 Dh7 hU ⟨xh7, rfl, h7, -⟩
          refine sl_perm ?_ (perm3 (D := Dh7))
          repeat (first | refine run_S ?_ | refine w_box (fun _ => ?_) | refine w_al (fun _ => ?_))
          refine sk_cut (E' := [(2, .pointer (some ⟨b2, 0, none⟩)), (3, .pointer (some ⟨b3, 0, none⟩)), (4, .pointer (some ⟨b4, 0, none⟩))]) ⟨rfl, rfl, rfl, trivial⟩ ⟨xh6, xh7, -n, -d, Dh6, Dh7, Dh2 ++ (Dh1 ++ M), h6, h7, by omega, sx.neg, sy.neg, (Rat.neg_divInt_neg n d).symm, sb, rfl, uc, rfl⟩
        · have hlt : 0 < d := by
            rw [h5] at hneg2
            have := of_decide_eq_false hneg2.symm
            omega
          try refine run_s ?_
          refine sk_cut (E' := [(2, .pointer (some ⟨b2, 0, none⟩)), (3, .pointer (some ⟨b3, 0, none⟩)), (4, .pointer (some ⟨b4, 0, none⟩))]) ⟨rfl, rfl, rfl, trivial⟩ ⟨_, _, n, d, Dh1, Dh2, M, h1, h2, hlt, sx, sy, rfl, sb, rfl, uc, rfl⟩
  · clear h1 h2 sx sy hx hy
    rintro E U' M' ⟨u, w, n', d', Dn, Dd, X, h1, h2, hd0, sx, sy, hq, hX, rfl, hU2, rfl⟩
    rw [hq]
    obtain ⟨q1, q2⟩ := over_pos (n := n') hd0
    repeat (first | refine run_S ?_ | refine w_box (fun _ => ?_) | refine w_al (fun _ => ?_))
    refine sl_call rfl rfl rfl rfl rfl rfl (fun _ => one_cn (h2.at sb)) ?_
    rintro v U3 D hU ⟨rfl, -, rfl⟩
    by_cases hd1 : d' = 1
    · rw [decide_eq_true hd1]
      rw [hd1, Int.gcd_one] at q1 q2
      simp at q1 q2
      rw [hd1] at h2 ⊢
      repeat (first | refine run_S ?_ | refine w_box (fun _ => ?_) | refine w_al (fun _ => ?_))
      refine sk_ret (Dd ++ Dn) sym rfl (.cons (.cell 0 rfl rfl rfl) .nil) uc ?_ (.inl rfl) ⟨⟨u, w⟩, rfl, .mk (by rw [q1]; exact h1) (by rw [q2]; exact h2), uc⟩
      rw [List.append_assoc]
      exact .cons _ (.cons _ (.cons _ (List.Sublist.append (List.Sublist.refl _) (List.Sublist.append (List.Sublist.refl _) hX))))
    · rw [decide_eq_false hd1]
      repeat (first | refine run_S ?_ | refine w_box (fun _ => ?_) | refine w_al (fun _ => ?_))
      refine sl_call rfl rfl rfl rfl rfl rfl (fun _ => (Gcd_ct (h1.at sb).rep (h1.le sx (by omega)) (h2.at sb).rep (h2.le sy (by omega))).settle) ?_
      rintro v Uhg D hU ⟨rfl, _, _, ⟨xhg, rfl, hg, -⟩, -, -, hs⟩
      replace hg := hg.sett hs
      clear hs
      repeat (first | refine run_S ?_ | refine w_box (fun _ => ?_) | refine w_al (fun _ => ?_))
      have sg : Sz (Int.gcd n' d' : Int) 274877906944 := sx.gcd sy
      have hg0 : (Int.gcd n' d' : Int) ≠ 0 := by
        have := Int.gcd_pos_of_ne_zero_right n' (b := d') (by omega)
        omega
      refine sl_call rfl rfl rfl rfl rfl rfl (fun _ => one_cn (hg.up uc sb)) ?_
      rintro v U4 D hU ⟨rfl, -, rfl⟩
      by_cases hg1 : (Int.gcd n' d' : Int) = 1
      · rw [decide_eq_true hg1]
        rw [hg1] at q1 q2
        simp at q1 q2
        repeat (first | refine run_S ?_ | refine w_box (fun _ => ?_) | refine w_al (fun _ => ?_))
        refine sk_ret (Dd ++ Dn) sym rfl (.cons (.cell 1 rfl rfl rfl) .nil) uc ?_ (.inl rfl) ⟨⟨u, w⟩, rfl, .mk (by rw [q1]; exact h1) (by rw [q2]; exact h2), uc⟩
        rw [List.append_assoc]
        exact .cons _ (.cons _ (.cons _ (.cons _ (List.Sublist.append (List.Sublist.refl _) (List.Sublist.append (List.Sublist.refl _) hX)))))
      · rw [decide_eq_false hg1]
        repeat (first | refine run_S ?_ | refine w_box (fun _ => ?_) | refine w_al (fun _ => ?_))
        refine sl_call rfl rfl rfl rfl rfl rfl (fun _ => Exact_ct (h1.at sb).rep (h1.le sx (by omega)) (hg.rep.up uc sb) (hg.le (sg) (by omega))) ?_
        rintro v U5 D5 hU ⟨r5, e5, rfl, -, -, hx5, -⟩
        obtain ⟨rfl, h5⟩ := hx5 hg0 (Int.emod_eq_zero_of_dvd (Int.gcd_dvd_left n' d'))
        refine sl_perm ?_ (perm4 (D := D5))
        repeat (first | refine run_S ?_ | refine w_box (fun _ => ?_) | refine w_al (fun _ => ?_))
        refine sl_call rfl rfl rfl rfl rfl rfl (fun _ => Exact_ct (h2.at sb).rep (h2.le sy (by omega)) (hg.rep.up uc sb) (hg.le (sg) (by omega))) ?_
        rintro v U6 D6 hU ⟨r6, e6, rfl, -, -, hx6, -⟩
        obtain ⟨rfl, h6⟩ := hx6 hg0 (Int.emod_eq_zero_of_dvd (Int.gcd_dvd_right n' d'))
        refine sl_perm ?_ (perm4 (D := D6))
        repeat (first | refine run_S ?_ | refine w_box (fun _ => ?_) | refine w_al (fun _ => ?_))
        refine sk_ret (D6 ++ D5) sym rfl (.cons (.cell 1 rfl rfl rfl) .nil) uc ?_ (.inl rfl) ⟨⟨r5, r6⟩, rfl, .mk (by rw [q1]; exact h5) (by rw [q2]; exact h6), uc⟩
        rw [List.append_assoc]
        exact .cons _ (.cons _ (.cons _ (.cons _ (List.Sublist.append (List.Sublist.refl _) (List.Sublist.append (List.Sublist.refl _) (sub_r (sub_r hX)))))))

end Go.Proofs.Ytlnmhjkagnfnaaa

/- Walks of rational: conversions, signs, sums, products, quotients. -/
namespace Go.Proofs.Ytlnmhjkagnfnaaa
open Go.Hp
variable {G : World} {U : UH} {M : MH}

theorem qMake_ct {x y : IV} {n d : Int} (hx : x.rep U M n) (hn : x.n ≤ 274877906944) (hy : y.rep U M d) (hn' : y.n ≤ 274877906944) :
    Ct Try.prog 46 [x.v, y.v] G U M fun v U' D => ∃ (r : QV) (e : Int), v = .tuple #[r.v, .int .i64 e] ∧ (d = 0 → e = 5 ∧ r = zeroQV ∧ D = []) ∧ (d ≠ 0 → e = 0 ∧ r.own D (Rat.divInt n d)) ∧ ULe U U' := by
  refine ct_of_st Try.func46 rfl rfl rfl rfl ?_
  repeat (first | refine run_S ?_ | refine w_box (fun _ => ?_) | refine w_al (fun _ => ?_))
  refine sl_call rfl rfl rfl rfl rfl rfl (fun _ => Sign_ct (hy.up uc sb) (by omega)) ?_
  rintro v U' D hU ⟨rfl, rfl, rfl⟩
  repeat (first | refine run_S ?_ | refine w_box (fun _ => ?_) | refine w_al (fun _ => ?_))
  refine st_eq rfl (fun h1 => ?_) (fun h1 => ?_)
  · have hd := Int.sign_eq_zero_iff_zero.1 h1
    repeat (first | refine run_S ?_ | refine w_box (fun _ => ?_) | refine w_al (fun _ => ?_))
    exact sk_ret [] sym rfl (.cons (.cell 0 rfl rfl rfl) (.cons (.tmp rfl) .nil)) uc sb (.inl rfl) ⟨zeroQV, 5, rfl, fun _ => ⟨rfl, rfl, rfl⟩, fun h => absurd hd h, uc⟩
  · have hd : d ≠ 0 := fun e => h1 (by rw [e]; rfl)
    repeat (first | refine run_S ?_ | refine w_box (fun _ => ?_) | refine w_al (fun _ => ?_))
    refine sl_call rfl rfl rfl rfl rfl rfl (fun _ => over_ct (hx.up uc sb) (by omega) (hy.up uc sb) (by omega)) ?_
    rintro v Uh3 Dh3 hU ⟨xh3, rfl, h3, -⟩
    refine sl_perm ?_ (perm3 (D := Dh3))
    repeat (first | refine run_S ?_ | refine w_box (fun _ => ?_) | refine w_al (fun _ => ?_))
    exact sk_ret Dh3 sym rfl (.cons (.cell 0 rfl rfl rfl) (.cons (.tmp rfl) .nil)) uc sb (.inl rfl) ⟨xh3, 0, rfl, fun h => absurd h hd, fun _ => ⟨rfl, h3⟩, uc⟩

end Go.Proofs.Ytlnmhjkagnfnaaa

/- Walks of rational: sums, products, quotients, comparison. -/
namespace Go.Proofs.Ytlnmhjkagnfnaaa
open Go.Hp
variable {G : World} {U : UH} {M : MH}

end Go.Proofs.Ytlnmhjkagnfnaaa

/- Walks of rational: binary digits, neighboring integers, decimal forms. -/
namespace Go.Proofs.Ytlnmhjkagnfnaaa
open Go.Hp
variable {G : World} {U : UH} {M : MH}

/-- The greater number of binary digits of numerator and denominator. -/
def qbl (q : Rat) : Nat := max (blen q.num.natAbs) (blen q.den)
/-- The decimal form of a fraction. -/
def qfmt (q : Rat) : List Nat := fmt q.num ++ if q.den = 1 then [] else 47 :: fmt (q.den : Int)

end Go.Proofs.Ytlnmhjkagnfnaaa
