/- The law of layer 2 on simplest fractions. -/
import Derived.Test.YtcndgdjelopmaaaB75
namespace Go.Proofs.Ytcndgdjelopmaaa
open Go.Hp
variable {G : World} {U : UH} {M : MH}

/-- n over d lies above lo, up to hi. -/
def InD (lo hi : Rat) (d : Nat) (n : Int) : Prop := (lo * ((d : Int) : Rat)).floor + 1 ≤ n ∧ n ≤ (hi * ((d : Int) : Rat)).floor

theorem inD_iff {lo hi : Rat} {d : Nat} {n : Int} : InD lo hi d n ↔ lo * ((d : Int) : Rat) < n ∧ (n : Rat) ≤ hi * ((d : Int) : Rat) := by
  unfold InD
  rw [Rat.le_floor_iff, ← Rat.floor_lt_iff]
  exact ⟨fun ⟨a, b⟩ => ⟨by omega, b⟩, fun ⟨a, b⟩ => ⟨by omega, b⟩⟩

theorem inD_self {lo hi q : Rat} (h1 : lo < q) (h2 : q ≤ hi) : InD lo hi q.den q.num := by
  rw [inD_iff]
  have hd : (0 : Rat) < ((q.den : Int) : Rat) := Rat.intCast_pos.2 (rat_den_pos q)
  have e : (q.num : Rat) = q * ((q.den : Int) : Rat) := rat_num_eq q
  rw [e]
  exact ⟨Rat.mul_lt_mul_of_pos_right h1 hd, Rat.mul_le_mul_of_nonneg_right h2 (by grind)⟩

theorem divInt_eq {n : Int} {d : Nat} (hd : 1 ≤ d) : Rat.divInt n (d : Int) * ((d : Int) : Rat) = (n : Rat) := by
  have e0 : ∀ z : Int, (z : Rat) = Rat.divInt z 1 := fun z => Rat.ext over_one.1.symm (by have := (over_one (n := z)).2; rw [Rat.den_intCast]; omega)
  have e := e0 (d : Int)
  have e2 := e0 n
  rw [e, Rat.divInt_mul_divInt, Int.mul_one, e2]
  have := Rat.divInt_mul_right (n := n) (d := 1) (a := (d : Int)) (by omega)
  rw [← this, Int.one_mul]

theorem inD_frac {lo hi : Rat} {d : Nat} {n : Int} (hd : 1 ≤ d) (h : InD lo hi d n) : lo < Rat.divInt n d ∧ Rat.divInt n d ≤ hi := by
  rw [inD_iff, ← divInt_eq (n := n) hd] at h
  have hp : (0 : Rat) < ((d : Int) : Rat) := Rat.intCast_pos.2 (by omega)
  exact ⟨(Rat.mul_lt_mul_right hp).1 h.1, Rat.le_of_mul_le_mul_right h.2 hp⟩

/-- Two numerators over one denominator: there is one over the denominator before. -/
theorem no_two {lo hi : Rat} {d : Nat} {m n : Int} (hd : 2 ≤ d) (h1 : InD lo hi d m) (h2 : InD lo hi d n) (hlt : m < n) : ∃ j, InD lo hi (d - 1) j := by
  rw [inD_iff] at h1 h2
  have hdp : (0 : Rat) < ((d : Int) : Rat) := Rat.intCast_pos.2 (by omega)
  have hd1 : (0 : Rat) < (((d - 1 : Nat) : Int) : Rat) := Rat.intCast_pos.2 (by omega)
  have e0 := Int.mul_ediv_add_emod m (d : Int)
  have e1 := Int.emod_nonneg m (b := (d : Int)) (by omega)
  have e2 := Int.emod_lt_of_pos m (b := (d : Int)) (by omega)
  generalize m / (d : Int) = e at *
  have c1 : ((m : Int) : Rat) * (((d - 1 : Nat) : Int) : Rat) ≤ (((m - e : Int)) : Rat) * ((d : Int) : Rat) := by
    rw [← Rat.intCast_mul, ← Rat.intCast_mul]
    apply Rat.intCast_le_intCast.2
    rw [show ((d - 1 : Nat) : Int) = (d : Int) - 1 by omega, Int.sub_mul, Int.mul_sub, Int.mul_comm e]
    omega
  have c2 : (((m - e : Int)) : Rat) * ((d : Int) : Rat) ≤ (((m + 1 : Int)) : Rat) * (((d - 1 : Nat) : Int) : Rat) := by
    rw [← Rat.intCast_mul, ← Rat.intCast_mul]
    apply Rat.intCast_le_intCast.2
    rw [show ((d - 1 : Nat) : Int) = (d : Int) - 1 by omega, Int.sub_mul, Int.mul_sub, Int.add_mul, Int.mul_comm e]
    omega
  have hn : (((m + 1 : Int)) : Rat) ≤ (n : Rat) := Rat.intCast_le_intCast.2 (by omega)
  refine ⟨m - e, inD_iff.2 ⟨?_, ?_⟩⟩
  · refine (Rat.mul_lt_mul_right hdp).1 ?_
    have := Rat.mul_lt_mul_of_pos_right h1.1 hd1
    grind
  · refine Rat.le_of_mul_le_mul_right (c := ((d : Int) : Rat)) ?_ hdp
    have := Rat.mul_le_mul_of_nonneg_right (Rat.le_trans hn h2.2) (c := (((d - 1 : Nat) : Int) : Rat)) (by grind)
    grind

theorem best_search {lo hi q : Rat} {d : Nat} {n : Int} (hb : Best lo hi q) (hd : 1 ≤ d) (hno : ∀ d', 1 ≤ d' → d' < d → ∀ n, ¬ InD lo hi d' n) (hin : InD lo hi d n) (hleast : ∀ m, InD lo hi d m → n.natAbs ≤ m.natAbs) : q = Rat.divInt n d := by
  obtain ⟨b1, b2, b3, b4⟩ := hb
  have hq := inD_self b1 b2
  have hqd := q.den_pos
  obtain ⟨f1, f2⟩ := inD_frac hd hin
  have h1 := b3 _ f1 f2
  have h2 : (Rat.divInt n (d : Int)).den ≤ d := by
    rw [Rat.den_divInt, if_neg (by omega), Int.natAbs_natCast]
    exact Nat.div_le_self _ _
  have h3 : d ≤ q.den := by
    rcases Nat.lt_or_ge q.den d with h | h
    · exact absurd hq (hno _ (by omega) h _)
    · exact h
  have hdq : q.den = d := by omega
  rw [hdq] at hq
  have hden : (Rat.divInt n (d : Int)).den = d := by omega
  have hnum : (Rat.divInt n (d : Int)).num = n := by
    have e := divInt_eq (n := n) hd
    have e3 := rat_num_eq (Rat.divInt n (d : Int))
    rw [hden] at e3
    rw [show ((d : Nat) : Rat) = ((d : Int) : Rat) from rfl, e] at e3
    exact Rat.intCast_inj.1 e3
  have heq : q.num = n := by
    rcases Nat.lt_or_ge d 2 with h | h
    · have hd1 : d = 1 := by omega
      have a1 := hleast _ hq
      have a2 := b4 (by omega) _ f1 f2 (by omega)
      rw [hnum] at a2
      rcases Int.lt_trichotomy q.num n with h5 | h5 | h5
      · have h6 : InD lo hi d 0 := ⟨by have := hq.1; omega, by have := hin.2; omega⟩
        have := hleast _ h6
        simp at this
        omega
      · exact h5
      · have h6 : InD lo hi d 0 := ⟨by have := hin.1; omega, by have := hq.2; omega⟩
        have := hleast _ h6
        simp at this
        omega
    · rcases Int.lt_trichotomy q.num n with h5 | h5 | h5
      · obtain ⟨j, hj⟩ := no_two h hq hin h5
        exact absurd hj (hno _ (by omega) (by omega) _)
      · exact h5
      · obtain ⟨j, hj⟩ := no_two h hin hq h5
        exact absurd hj (hno _ (by omega) (by omega) _)
  exact Rat.ext (by rw [heq, hnum]) (by rw [hden, hdq])

/-- The search over the denominators. -/
theorem rqSimplest_ct {xl xh : QV} {lo hi : Rat} {most : Nat} (hl : xl.rep U M lo) (hnl : xl.le 12) (hh : xh.rep U M hi) (hnh : xh.le 12) (hm : most ≤ 1000) :
    Ct Try.prog 18 [inval xl xh, .int .i64 (most : Int)] G U M fun v U' D => ∃ (r : QV) (b : Bool), v = .tuple #[r.v, .bool b] ∧
      (b = true → ∃ (d : Nat) (n : Int), 1 ≤ d ∧ (∀ d', 1 ≤ d' → d' < d → ∀ n, ¬ InD lo hi d' n) ∧ InD lo hi d n ∧ (∀ m, InD lo hi d m → n.natAbs ≤ m.natAbs) ∧ r.nrm U' [] (Rat.divInt n d)) ∧
      (b = false → ∀ d', 1 ≤ d' → d' ≤ most → ∀ n, ¬ InD lo hi d' n) ∧ D = [] := by
  have sl := hl.sz hnl (by decide)
  have sh := hh.sz hnh (by decide)
  refine ct_of_st Try.func18 rfl rfl rfl rfl ?_
  repeat (first | refine run_S ?_ | refine w_box (fun _ => ?_) | refine w_al (fun _ => ?_))
  rename_i b2 b4
  refine st_loop (fun m E U' M' => ∃ d : Nat, 1 ≤ d ∧ d ≤ most + 1 ∧ (∀ d', 1 ≤ d' → d' < d → ∀ n, ¬ InD lo hi d' n) ∧ E = [(6, .int .i64 (d : Int)), (2, .pointer (some ⟨b2, 0, none⟩)), (4, .pointer (some ⟨b4, 0, none⟩)), (1, .int .i64 (most : Int))] ∧ ULe U U' ∧
      M' = (b4, .var zeroQV.v, 26) :: (b2, .var (inval xl xh), 28) :: M ∧ m = most + 1 - d) (n0 := most)
    (E0 := [(6, .int .i64 ((1 : Nat) : Int)), (2, .pointer (some ⟨b2, 0, none⟩)), (4, .pointer (some ⟨b4, 0, none⟩)), (1, .int .i64 (most : Int))]) ⟨rfl, rfl, rfl, rfl, trivial⟩ ⟨1, by omega, by omega, fun d' h1 h2 => by omega, rfl, ULe.refl _, rfl, by omega⟩ ?_
  rintro m E U' M' ⟨d, hd1, hd2, hno, rfl, hU0, rfl, rfl⟩
  try refine run_s ?_
  refine st_dec rfl (fun h1 => ?_) (fun h1 => ?_)
  · have sd : Sz (d : Int) 1 := by unfold Sz; omega
    have sdq : Szq ((d : Int) : Rat) 1 := szq_int sd (Nat.le_refl 1)
    repeat (first | refine run_S ?_ | refine w_box (fun _ => ?_) | refine w_al (fun _ => ?_))
    refine sl_call rfl rfl rfl rfl rfl rfl (fun _ => rqOf_ct (z := (d : Int)) (by omega) (by omega)) ?_
    rintro v Uh2 D hU ⟨xh2, rfl, h2, rfl⟩
    repeat (first | refine run_S ?_ | refine w_box (fun _ => ?_) | refine w_al (fun _ => ?_))
    refine sl_call rfl rfl rfl rfl rfl rfl (fun _ => rqMul_ct (hl.up uc sb) (by omega) (h2.rep.up uc sb) (h2.le (sdq) (by omega))) ?_
    rintro v Uh3 D hU ⟨xh3, rfl, h3, rfl⟩
    repeat (first | refine run_S ?_ | refine w_box (fun _ => ?_) | refine w_al (fun _ => ?_))
    refine sl_call rfl rfl rfl rfl rfl rfl (fun _ => rqFloor_ct (h3.rep.up uc sb) (h3.le (sl.mul sdq) (by omega))) ?_
    rintro v Uh4 D hU ⟨xh4, rfl, h4, rfl⟩
    repeat (first | refine run_S ?_ | refine w_box (fun _ => ?_) | refine w_al (fun _ => ?_))
    refine sl_call rfl rfl rfl rfl rfl rfl (fun _ => (rOf_ct (z := 1) (by decide) (by decide)).settle) ?_
    rintro v Uh5 D hU ⟨rfl, _, _, ⟨xh5, rfl, h5, -⟩, -, -, hs⟩
    replace h5 := h5.sett hs
    clear hs
    repeat (first | refine run_S ?_ | refine w_box (fun _ => ?_) | refine w_al (fun _ => ?_))
    have sf : Sz ((lo * ((d : Int) : Rat)).floor) 13 := sz_floor (sl.mul sdq)
    have sg : Sz ((hi * ((d : Int) : Rat)).floor) 13 := sz_floor (sh.mul sdq)
    have sf1 : Sz ((lo * ((d : Int) : Rat)).floor + 1) 14 := sf.add (sz_one (by decide))
    refine sl_call rfl rfl rfl rfl rfl rfl (fun _ => (rAdd_ct (h4.rep.up uc sb) (h4.le (sf) (by omega)) (h5.rep.up uc sb) (h5.le (sz_one (Nat.le_refl 1)) (by omega))).settle) ?_
    rintro v Uh6 D hU ⟨rfl, _, _, ⟨xh6, rfl, h6, -⟩, -, -, hs⟩
    replace h6 := h6.sett hs
    clear hs
    repeat (first | refine run_S ?_ | refine w_box (fun _ => ?_) | refine w_al (fun _ => ?_))
    refine sl_call rfl rfl rfl rfl rfl rfl (fun _ => rqMul_ct (hh.up uc sb) (by omega) (h2.rep.up uc sb) (h2.le (sdq) (by omega))) ?_
    rintro v Uh7 D hU ⟨xh7, rfl, h7, rfl⟩
    repeat (first | refine run_S ?_ | refine w_box (fun _ => ?_) | refine w_al (fun _ => ?_))
    refine sl_call rfl rfl rfl rfl rfl rfl (fun _ => rqFloor_ct (h7.rep.up uc sb) (h7.le (sh.mul sdq) (by omega))) ?_
    rintro v Uh8 D hU ⟨xh8, rfl, h8, rfl⟩
    repeat (first | refine run_S ?_ | refine w_box (fun _ => ?_) | refine w_al (fun _ => ?_))
    refine sl_call rfl rfl rfl rfl rfl rfl (fun _ => rCmp_ct (h6.rep.up uc sb) (h6.le (sf1) (by omega)) (h8.rep.up uc sb) (h8.le (sg) (by omega))) ?_
    rintro v U' D hU ⟨rfl, rfl, rfl⟩
    repeat (first | refine run_S ?_ | refine w_box (fun _ => ?_) | refine w_al (fun _ => ?_))
    generalize hF : (lo * ((d : Int) : Rat)).floor + 1 = first at *
    generalize hL : (hi * ((d : Int) : Rat)).floor = last at *
    have hInD : ∀ n, InD lo hi d n ↔ first ≤ n ∧ n ≤ last := fun n => by unfold InD; rw [hF, hL]
    refine st_dec rfl (fun h9 => ?_) (fun h9 => ?_)
    · have hlt : last < first := by
        rcases Int.lt_trichotomy (first - last) 0 with h | h | h
        · rw [Int.sign_eq_neg_one_of_neg h] at h9; omega
        · rw [h] at h9; simp at h9
        · omega
      repeat (first | refine run_S ?_ | refine w_box (fun _ => ?_) | refine w_al (fun _ => ?_))
      refine sk_anti (ULe.refl _) (M' := (b4, .var zeroQV.v, 26) :: (b2, .var (inval xl xh), 28) :: M) sb ?_
      refine sk_again (E' := [(6, .int .i64 ((d : Int) + 1)), (2, .pointer (some ⟨b2, 0, none⟩)), (4, .pointer (some ⟨b4, 0, none⟩)), (1, .int .i64 (most : Int))]) (m := most + 1 - (d + 1)) ⟨rfl, rfl, rfl, rfl, trivial⟩ (by omega) ⟨d + 1, by omega, by omega, fun d' e1 e2 n hn => ?_, rfl, uc, rfl, rfl⟩
      rcases Nat.lt_or_ge d' d with h | h
      · exact hno d' e1 h n hn
      · have : d' = d := by omega
        subst this
        have := (hInD n).1 hn
        omega
    · have hle : first ≤ last := by
        by_cases h : last < first
        · rw [Int.sign_eq_one_of_pos (by omega)] at h9; omega
        · omega
      repeat (first | refine run_S ?_ | refine w_box (fun _ => ?_) | refine w_al (fun _ => ?_))
      refine sl_call rfl rfl rfl rfl rfl rfl (fun _ => rSign_ct (h6.rep.up uc sb) (h6.le (sf1) (by omega))) ?_
      rintro v U' D hU ⟨rfl, rfl, rfl⟩
      repeat (first | refine run_S ?_ | refine w_box (fun _ => ?_) | refine w_al (fun _ => ?_))
      have hdone : ∀ n : Int, first ≤ n → n ≤ last → (∀ m, first ≤ m → m ≤ last → n.natAbs ≤ m.natAbs) → ∃ (d : Nat) (n' : Int), 1 ≤ d ∧ (∀ d', 1 ≤ d' → d' < d → ∀ n, ¬ InD lo hi d' n) ∧ InD lo hi d n' ∧ (∀ m, InD lo hi d m → n'.natAbs ≤ m.natAbs) ∧ Rat.divInt n' d = Rat.divInt n d := fun n a b c =>
        ⟨d, n, hd1, hno, (hInD n).2 ⟨a, b⟩, fun m hm => c m ((hInD m).1 hm).1 ((hInD m).1 hm).2, rfl⟩
      have pos : 0 < first → ∀ m, first ≤ m → m ≤ last → first.natAbs ≤ m.natAbs := fun h m h1 h2 => by omega
      have neg : last < 0 → ∀ m, first ≤ m → m ≤ last → last.natAbs ≤ m.natAbs := fun h m h1 h2 => by omega
      by_cases hp : 0 < first
      · refine sl_gdec rfl rfl (fun h => absurd h (by rw [Int.sign_eq_one_of_pos hp]; decide)) (fun _ => ?_)
        repeat (first | refine run_S ?_ | refine w_box (fun _ => ?_) | refine w_al (fun _ => ?_))
        refine sl_call rfl rfl rfl rfl rfl rfl (fun _ => rSign_ct (h6.rep.up uc sb) (h6.le (sf1) (by omega))) ?_
        rintro v U' D hU ⟨rfl, rfl, rfl⟩
        repeat (first | refine run_S ?_ | refine w_box (fun _ => ?_) | refine w_al (fun _ => ?_))
        refine st_dec rfl (fun _ => ?_) (fun h => absurd (by rw [Int.sign_eq_one_of_pos hp]; decide) h)
        repeat (first | refine run_S ?_ | refine w_box (fun _ => ?_) | refine w_al (fun _ => ?_))
        refine st_draw [0, 1, 2, 3, 4, 5] sym (by kernel_rfl) ?_
        repeat (first | refine run_S ?_ | refine w_box (fun _ => ?_) | refine w_al (fun _ => ?_))
        refine sl_call rfl rfl rfl rfl rfl rfl (fun _ => (rOf_ct (z := (d : Int)) (by omega) (by omega)).settle) ?_
        rintro v Uh10 D hU ⟨rfl, _, _, ⟨xh10, rfl, h10, -⟩, -, -, hs⟩
        replace h10 := h10.sett hs
        clear hs
        repeat (first | refine run_S ?_ | refine w_box (fun _ => ?_) | refine w_al (fun _ => ?_))
        refine sl_call rfl rfl rfl rfl rfl rfl (fun _ => rqOver_ct (h6.rep.up uc sb) (h6.le (sf1) (by omega)) (h10.rep.up uc sb) (h10.le (sd) (by omega))) ?_
        rintro v Uh11 D hU ⟨xh11, rfl, h11, rfl⟩
        repeat (first | refine run_S ?_ | refine w_box (fun _ => ?_) | refine w_al (fun _ => ?_))
        exact sk_ret [] sym rfl (.cons (.cell 3 rfl rfl rfl) (.cons (.tmp rfl) .nil)) uc sb (.inl rfl) ⟨xh11, true, rfl, fun _ => ⟨d, first, hd1, hno, (hInD _).2 ⟨Int.le_refl _, hle⟩, fun m hm => pos hp m ((hInD m).1 hm).1 ((hInD m).1 hm).2, h11⟩, fun h => (by cases h), rfl⟩
      · have hs1 : first.sign ≤ 0 := by
          by_cases h : first = 0
          · rw [h]; decide
          · rw [Int.sign_eq_neg_one_of_neg (by omega)]; decide
        refine sl_gdec rfl rfl (fun _ => ?_) (fun h => absurd hs1 h)
        repeat (first | refine run_S ?_ | refine w_box (fun _ => ?_) | refine w_al (fun _ => ?_))
        refine sl_call rfl rfl rfl rfl rfl rfl (fun _ => rSign_ct (h8.rep.up uc sb) (h8.le (sg) (by omega))) ?_
        rintro v U' D hU ⟨rfl, rfl, rfl⟩
        repeat (first | refine run_S ?_ | refine w_box (fun _ => ?_) | refine w_al (fun _ => ?_))
        by_cases hn : last < 0
        · refine st_dec rfl (fun h => absurd h (by rw [Int.sign_eq_neg_one_of_neg hn]; decide)) (fun _ => ?_)
          repeat (first | refine run_S ?_ | refine w_box (fun _ => ?_) | refine w_al (fun _ => ?_))
          refine sl_call rfl rfl rfl rfl rfl rfl (fun _ => rSign_ct (h6.rep.up uc sb) (h6.le (sf1) (by omega))) ?_
          rintro v U' D hU ⟨rfl, rfl, rfl⟩
          repeat (first | refine run_S ?_ | refine w_box (fun _ => ?_) | refine w_al (fun _ => ?_))
          refine st_dec rfl (fun h => absurd h (by omega)) (fun _ => ?_)
          repeat (first | refine run_S ?_ | refine w_box (fun _ => ?_) | refine w_al (fun _ => ?_))
          refine st_draw [0, 1, 2, 3, 4, 5] sym (by kernel_rfl) ?_
          repeat (first | refine run_S ?_ | refine w_box (fun _ => ?_) | refine w_al (fun _ => ?_))
          refine sl_call rfl rfl rfl rfl rfl rfl (fun _ => (rOf_ct (z := (d : Int)) (by omega) (by omega)).settle) ?_
          rintro v Uh10 D hU ⟨rfl, _, _, ⟨xh10, rfl, h10, -⟩, -, -, hs⟩
          replace h10 := h10.sett hs
          clear hs
          repeat (first | refine run_S ?_ | refine w_box (fun _ => ?_) | refine w_al (fun _ => ?_))
          refine sl_call rfl rfl rfl rfl rfl rfl (fun _ => rqOver_ct (h8.rep.up uc sb) (h8.le (sg) (by omega)) (h10.rep.up uc sb) (h10.le (sd) (by omega))) ?_
          rintro v Uh11 D hU ⟨xh11, rfl, h11, rfl⟩
          repeat (first | refine run_S ?_ | refine w_box (fun _ => ?_) | refine w_al (fun _ => ?_))
          exact sk_ret [] sym rfl (.cons (.cell 3 rfl rfl rfl) (.cons (.tmp rfl) .nil)) uc sb (.inl rfl) ⟨xh11, true, rfl, fun _ => ⟨d, last, hd1, hno, (hInD _).2 ⟨hle, Int.le_refl _⟩, fun m hm => neg hn m ((hInD m).1 hm).1 ((hInD m).1 hm).2, h11⟩, fun h => (by cases h), rfl⟩
        · refine st_dec rfl (fun _ => ?_) (fun h => absurd (Int.sign_nonneg_iff.2 (by omega)) h)
          repeat (first | refine run_S ?_ | refine w_box (fun _ => ?_) | refine w_al (fun _ => ?_))
          refine sl_call rfl rfl rfl rfl rfl rfl (fun _ => rqOf_ct (z := 0) (by decide) (by decide)) ?_
          rintro v Uh11 D hU ⟨xh11, rfl, h11, rfl⟩
          repeat (first | refine run_S ?_ | refine w_box (fun _ => ?_) | refine w_al (fun _ => ?_))
          exact sk_ret [] sym rfl (.cons (.cell 3 rfl rfl rfl) (.cons (.tmp rfl) .nil)) uc sb (.inl rfl) ⟨xh11, true, rfl, fun _ => ⟨d, 0, hd1, hno, (hInD _).2 ⟨by omega, by omega⟩, fun m hm => by simp, by rw [Rat.zero_divInt]; exact h11⟩, fun h => (by cases h), rfl⟩
  · repeat (first | refine run_S ?_ | refine w_box (fun _ => ?_) | refine w_al (fun _ => ?_))
    exact sk_ret [] sym rfl (.cons (.cell 0 rfl rfl rfl) (.cons (.tmp rfl) .nil)) uc sb (.inl rfl) ⟨zeroQV, false, rfl, fun h => (by cases h), fun _ d' e1 e2 n => hno d' e1 (by omega) n, rfl⟩

theorem RationalSimplest_ct {a b : QV} {lo hi : Rat} (ha : a.rep U M lo) (hb : b.rep U M hi) :
    Ct Try.prog 3 [inval a b] G U M fun v _ _ => v = .bool true := by
  refine ct_of_st Try.func3 rfl rfl rfl rfl ?_
  repeat (first | refine run_S ?_ | refine w_box (fun _ => ?_) | refine w_al (fun _ => ?_))
  refine sl_call rfl rfl rfl rfl rfl rfl (fun _ => awake2_ct) ?_
  rintro v U1 D hU ⟨rfl, -, rfl⟩
  repeat (first | refine run_S ?_ | refine w_box (fun _ => ?_) | refine w_al (fun _ => ?_))
  refine sl_bslice (vs := [a, b].map QV.v) sym rfl rfl rfl rfl rfl rfl qvs_size rfl rfl rfl rfl rfl rfl (fun bo => ?_)
  repeat (first | refine run_S ?_ | refine w_box (fun _ => ?_) | refine w_al (fun _ => ?_))
  refine sl_call rfl rfl rfl rfl rfl rfl (fun _ => long2_ct (qvs_head.app _) rfl (by decide)) ?_
  rintro v U' D hU' ⟨r, rfl, hr, rfl, rfl⟩
  repeat (first | refine run_S ?_ | refine w_box (fun _ => ?_) | refine w_al (fun _ => ?_))
  cases r
  · have hna := hr rfl a (by simp)
    have hnb := hr rfl b (by simp)
    have sa := ha.sz hna (by decide)
    have sbb := hb.sz hnb (by decide)
    repeat (first | refine run_S ?_ | refine w_box (fun _ => ?_) | refine w_al (fun _ => ?_))
    refine sl_call rfl rfl rfl rfl rfl rfl (fun _ => Simplest_ct (K := 12) (ha.up uc sb) hna (hb.up uc sb) hnb (by decide) (by decide)) ?_
    rintro v U2 D hU2 ⟨x, e, rfl, hx0, hx1, rfl⟩
    repeat (first | refine run_S ?_ | refine w_box (fun _ => ?_) | refine w_al (fun _ => ?_))
    refine sl_call rfl rfl rfl rfl rfl rfl (fun _ => rqCmp_ct (ha.up uc sb) (by omega) (hb.up uc sb) (by omega)) ?_
    rintro v _ D hU ⟨rfl, -, rfl⟩
    repeat (first | refine run_S ?_ | refine w_box (fun _ => ?_) | refine w_al (fun _ => ?_))
    refine st_dec rfl (fun h => ?_) (fun h => ?_)
    · have hle : ¬ lo < hi := fun h' => by have := rcmp_lt.2 h'; omega
      obtain ⟨rfl, rfl⟩ := hx0 (by grind)
      repeat (first | refine run_S ?_ | refine w_box (fun _ => ?_) | refine w_al (fun _ => ?_))
      refine sl_gdec rfl rfl (fun _ => ?_) (fun h => absurd rfl h)
      repeat (first | refine run_S ?_ | refine w_box (fun _ => ?_) | refine w_al (fun _ => ?_))
      refine sl_call rfl rfl rfl rfl rfl rfl (fun _ => none2_ct) ?_
      rintro v U' D hU ⟨rfl, rfl, rfl⟩
      repeat (first | refine run_S ?_ | refine w_box (fun _ => ?_) | refine w_al (fun _ => ?_))
      exact sk_ret [] sym rfl (.cons (.tmp rfl) .nil) uc sb (.inl rfl) rfl
    · have hlt : lo < hi := rcmp_lt.1 (by omega)
      obtain ⟨rfl, q, hq, hbest⟩ := hx1 hlt
      have sq := hbest.sz sa sbb
      obtain ⟨b1, b2, b3, b4⟩ := hbest
      repeat (first | refine run_S ?_ | refine w_box (fun _ => ?_) | refine w_al (fun _ => ?_))
      refine st_draw [0, 1, 2, 3, 4, 5, 6, 7, 8, 9, 10, 11, 12, 13, 14, 15, 16, 17, 18, 19, 20, 21, 22] sym (by kernel_rfl) ?_
      repeat (first | refine run_S ?_ | refine w_box (fun _ => ?_) | refine w_al (fun _ => ?_))
      refine sl_gdec rfl rfl (fun h => absurd rfl h) (fun _ => ?_)
      repeat (first | refine run_S ?_ | refine w_box (fun _ => ?_) | refine w_al (fun _ => ?_))
      refine sl_call rfl rfl rfl rfl rfl rfl (fun _ => rqNormal_ct (hq.rep.up uc sb) (hq.le (sq) (by omega))) ?_
      rintro v Uh5 D hU ⟨xh5, rfl, h5, rfl⟩
      repeat (first | refine run_S ?_ | refine w_box (fun _ => ?_) | refine w_al (fun _ => ?_))
      refine sl_call rfl rfl rfl rfl rfl rfl (fun _ => rqSameT_ct (hq.up uc sb) (h5.up uc sb)) ?_
      rintro v U' D hU ⟨rfl, rfl, rfl⟩
      repeat (first | refine run_S ?_ | refine w_box (fun _ => ?_) | refine w_al (fun _ => ?_))
      refine sl_call rfl rfl rfl rfl rfl rfl (fun _ => rqCmp_ct (ha.up uc sb) (by omega) (hq.rep.up uc sb) (hq.le (sq) (by omega))) ?_
      rintro v _ D hU ⟨rfl, -, rfl⟩
      repeat (first | refine run_S ?_ | refine w_box (fun _ => ?_) | refine w_al (fun _ => ?_))
      refine sl_gdec rfl rfl (fun h => absurd h (by have := rcmp_lt.2 b1; omega)) (fun _ => ?_)
      repeat (first | refine run_S ?_ | refine w_box (fun _ => ?_) | refine w_al (fun _ => ?_))
      refine sl_call rfl rfl rfl rfl rfl rfl (fun _ => rqCmp_ct (hq.rep.up uc sb) (hq.le (sq) (by omega)) (hb.up uc sb) (by omega)) ?_
      rintro v _ D hU ⟨rfl, -, rfl⟩
      repeat (first | refine run_S ?_ | refine w_box (fun _ => ?_) | refine w_al (fun _ => ?_))
      refine st_dec rfl (fun h => absurd (rcmp_gt.1 h) (by grind)) (fun _ => ?_)
      repeat (first | refine run_S ?_ | refine w_box (fun _ => ?_) | refine w_al (fun _ => ?_))
      refine sl_call rfl rfl rfl rfl rfl rfl (fun _ => rqSimplest_ct (most := 60) (ha.up uc sb) hna (hb.up uc sb) hnb (by decide)) ?_
      rintro v U6 D hU6 ⟨y, c, rfl, y1, y2, rfl⟩
      cases c
      · have y2 := y2 rfl
        have hden : 60 < q.den := by
          rcases Nat.lt_or_ge 60 q.den with h | h
          · exact h
          · exact absurd (inD_self b1 b2) (y2 _ q.den_pos h _)
        repeat (first | refine run_S ?_ | refine w_box (fun _ => ?_) | refine w_al (fun _ => ?_))
        refine st_draw [0, 1, 2, 3, 4, 5] sym (by kernel_rfl) ?_
        repeat (first | refine run_S ?_ | refine w_box (fun _ => ?_) | refine w_al (fun _ => ?_))
        refine sl_call rfl rfl rfl rfl rfl rfl (fun _ => (rOf_ct (z := 60) (by decide) (by decide)).settle) ?_
        rintro v Uh7 D hU ⟨rfl, _, _, ⟨xh7, rfl, h7, -⟩, -, -, hs⟩
        replace h7 := h7.sett hs
        clear hs
        repeat (first | refine run_S ?_ | refine w_box (fun _ => ?_) | refine w_al (fun _ => ?_))
        refine sl_call rfl rfl rfl rfl rfl rfl (fun _ => rCmp_ct (hq.2.rep.up uc sb) (hq.2.le sq.2 (by omega)) (h7.rep.up uc sb) (h7.le (show Sz 60 1 by unfold Sz; decide) (by omega))) ?_
        rintro v U' D hU ⟨rfl, rfl, rfl⟩
        repeat (first | refine run_S ?_ | refine w_box (fun _ => ?_) | refine w_al (fun _ => ?_))
        exact sk_ret [] sym rfl (.cons (.tmp rfl) .nil) uc sb (.inl rfl) (tup_dec (by rw [Int.sign_eq_one_of_pos (by omega)]; decide))
      · obtain ⟨d, n, p1, p2, p3, p4, p5⟩ := y1 rfl
        have e := best_search ⟨b1, b2, b3, b4⟩ p1 p2 p3 p4
        rw [← e] at p5
        repeat (first | refine run_S ?_ | refine w_box (fun _ => ?_) | refine w_al (fun _ => ?_))
        refine sl_call rfl rfl rfl rfl rfl rfl (fun _ => rqSameT_ct (hq.up uc sb) (p5.up uc sb)) ?_
        rintro v U' D hU ⟨rfl, rfl, rfl⟩
        repeat (first | refine run_S ?_ | refine w_box (fun _ => ?_) | refine w_al (fun _ => ?_))
        exact sk_ret [] sym rfl (.cons (.tmp rfl) .nil) uc sb (.inl rfl) rfl
  · repeat (first | refine run_S ?_ | refine w_box (fun _ => ?_) | refine w_al (fun _ => ?_))
    exact sk_ret [] sym rfl (.cons (.tmp rfl) .nil) uc sb (.inl rfl) rfl

end Go.Proofs.Ytcndgdjelopmaaa
