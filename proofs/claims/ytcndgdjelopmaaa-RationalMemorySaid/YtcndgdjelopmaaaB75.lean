/- The laws of layer 2: conversions, operations, neighboring integers. -/
import Derived.Test.YtcndgdjelopmaaaM17
namespace Go.Proofs.Ytcndgdjelopmaaa
open Go.Hp
variable {G : World} {U : UH} {M : MH}

theorem rqSameT_ct {x y : QV} {p : Rat} (hx : x.nrm U M p) (hy : y.nrm U M p) :
    Ct Try.prog 16 [x.v, y.v] G U M fun v U' D => v = .bool true ∧ U = U' ∧ D = [] :=
  (rqSame_ct hx hy).mono fun _ _ _ _ ⟨h1, h2, h3⟩ => ⟨by rw [h1, decide_eq_true rfl], h2, h3⟩
theorem rSameT_ct {x y : IV} {z : Int} (hx : x.nrm U M z) (hy : y.nrm U M z) :
    Ct Try.prog 28 [x.v, y.v] G U M fun v U' D => v = .bool true ∧ U = U' ∧ D = [] :=
  (rSame_cz hx hy).mono fun _ _ _ _ ⟨h1, h2, h3⟩ => ⟨by rw [h1, decide_eq_true rfl], h2, h3⟩
theorem zeroIV0_nrm : zeroIV0.nrm U M 0 := zeroIV0_own.at (List.nil_sublist _)
theorem qvs_size {xs : List QV} : ∀ v ∈ xs.map QV.v, v.cells.toList.length = 4 := fun v hv => by obtain ⟨y, _, rfl⟩ := List.mem_map.1 hv; rfl
theorem tup_dec {p : Prop} [Decidable p] (h : p) : tup [.bool (dec p)] = .bool true := by rw [dec_true h]; rfl

theorem RationalConverts_ct {a : QV} {q : Rat} {k : Int} (ha : a.rep U M q) (hk0 : -9223372036854775808 ≤ k) (hk1 : k ≤ 9223372036854775807) :
    Ct Try.prog 9 [a.v, .int .i64 k] G U M fun v _ _ => v = .bool true := by
  have ha' := ha
  obtain ⟨n, d, h1, h2, hq⟩ := ha
  refine ct_of_st Try.func9 rfl rfl rfl rfl ?_
  repeat (first | refine run_S ?_ | refine w_box (fun _ => ?_) | refine w_al (fun _ => ?_))
  rename_i b2
  refine sl_call rfl rfl rfl rfl rfl rfl (fun _ => awake2_ct) ?_
  rintro v U1 D hU ⟨rfl, -, rfl⟩
  repeat (first | refine run_S ?_ | refine w_box (fun _ => ?_) | refine w_al (fun _ => ?_))
  refine sl_bslice (vs := [a].map QV.v) sym rfl rfl rfl rfl rfl rfl qvs_size rfl rfl rfl rfl rfl rfl (fun bo => ?_)
  repeat (first | refine run_S ?_ | refine w_box (fun _ => ?_) | refine w_al (fun _ => ?_))
  refine sl_call rfl rfl rfl rfl rfl rfl (fun _ => long2_ct (qvs_head.app _) rfl (by decide)) ?_
  rintro v U' D hU' ⟨r, rfl, hr, rfl, rfl⟩
  repeat (first | refine run_S ?_ | refine w_box (fun _ => ?_) | refine w_al (fun _ => ?_))
  cases r
  · have hna := hr rfl a (by simp)
    repeat (first | refine run_S ?_ | refine w_box (fun _ => ?_) | refine w_al (fun _ => ?_))
    refine sl_call rfl rfl rfl rfl rfl rfl (fun _ => (qMake_ct (h1.up uc sb) (by omega) (h2.up uc sb) (by omega)).settle) ?_
    rintro v U2 D hU2 ⟨rfl, _, _, ⟨x, e, rfl, hx0, hx1, -⟩, -, -, hs2⟩
    repeat (first | refine run_S ?_ | refine w_box (fun _ => ?_) | refine w_al (fun _ => ?_))
    rename_i b5
    refine sl_call rfl rfl rfl rfl rfl rfl (fun _ => rqMake_ct (h1.up uc sb) (by omega) (h2.up uc sb) (by omega)) ?_
    rintro v U3 D hU3 ⟨y, f, rfl, hy0, hy1, rfl⟩
    repeat (first | refine run_O ?_ | refine w_box (fun _ => ?_) | refine w_al (fun _ => ?_))
    rename_i b7
    refine st_seq_cut (fun E U' M' => E = [(1, .int .i64 k), (2, .pointer (some ⟨b2, 0, none⟩))] ∧ ULe U U' ∧ M' = (b7, .var y.v, 26) :: (b5, .var x.v, 26) :: (bo, .arr ([a].map QV.v), 26) :: (b2, .var a.v, 26) :: M) ?_ ?_
    · by_cases hd : d = 0
      · obtain ⟨rfl, rfl, rfl⟩ := hx0 hd
        obtain rfl := hy0 hd
        repeat (first | refine run_S ?_ | refine w_box (fun _ => ?_) | refine w_al (fun _ => ?_))
        refine sl_gdec rfl rfl (fun h => absurd rfl h) (fun _ => ?_)
        repeat (first | refine run_S ?_ | refine w_box (fun _ => ?_) | refine w_al (fun _ => ?_))
        refine sl_gdec rfl rfl (fun h => absurd h (by decide)) (fun _ => ?_)
        repeat (first | refine run_S ?_ | refine w_box (fun _ => ?_) | refine w_al (fun _ => ?_))
        refine sl_gdec rfl rfl (fun _ => ?_) (fun h => absurd (by decide) h)
        repeat (first | refine run_S ?_ | refine w_box (fun _ => ?_) | refine w_al (fun _ => ?_))
        refine sl_call rfl rfl rfl rfl rfl rfl (fun _ => none2_ct) ?_
        rintro v U' D hU ⟨rfl, rfl, rfl⟩
        repeat (first | refine run_S ?_ | refine w_box (fun _ => ?_) | refine w_al (fun _ => ?_))
        exact sk_cut (E' := [(1, .int .i64 k), (2, .pointer (some ⟨b2, 0, none⟩))]) ⟨rfl, rfl, trivial⟩ ⟨rfl, uc, rfl⟩
      · obtain ⟨rfl, hx2⟩ := hx1 hd
        obtain ⟨rfl, hy2⟩ := hy1 hd
        replace hx2 := hx2.sett hs2
        repeat (first | refine run_S ?_ | refine w_box (fun _ => ?_) | refine w_al (fun _ => ?_))
        refine sl_gdec rfl rfl (fun h => absurd rfl h) (fun _ => ?_)
        repeat (first | refine run_S ?_ | refine w_box (fun _ => ?_) | refine w_al (fun _ => ?_))
        refine sl_gdec rfl rfl (fun _ => ?_) (fun h => absurd rfl h)
        repeat (first | refine run_S ?_ | refine w_box (fun _ => ?_) | refine w_al (fun _ => ?_))
        refine sl_call rfl rfl rfl rfl rfl rfl (fun _ => rqSameT_ct (hx2.up uc sb) (hy2.up uc sb)) ?_
        rintro v U' D hU ⟨rfl, rfl, rfl⟩
        repeat (first | refine run_S ?_ | refine w_box (fun _ => ?_) | refine w_al (fun _ => ?_))
        refine sl_gdec rfl rfl (fun h => absurd rfl h) (fun _ => ?_)
        repeat (first | refine run_S ?_ | refine w_box (fun _ => ?_) | refine w_al (fun _ => ?_))
        exact sk_cut (E' := [(1, .int .i64 k), (2, .pointer (some ⟨b2, 0, none⟩))]) ⟨rfl, rfl, trivial⟩ ⟨rfl, uc, rfl⟩
    · clear hx0 hx1 hy0 hy1 hs2
      rintro E U' M' ⟨rfl, hU', rfl⟩
      repeat (first | refine run_S ?_ | refine w_box (fun _ => ?_) | refine w_al (fun _ => ?_))
      refine sl_call rfl rfl rfl rfl rfl rfl (fun _ => qInteger_ct (ha'.up uc sb) (by omega)) ?_
      rintro v U4 D hU4 ⟨x1, c1, rfl, i1, i2, rfl⟩
      repeat (first | refine run_S ?_ | refine w_box (fun _ => ?_) | refine w_al (fun _ => ?_))
      refine sl_call rfl rfl rfl rfl rfl rfl (fun _ => rqInteger_ct (ha'.up uc sb) (by omega)) ?_
      rintro v U5 D hU5 ⟨x2, c2, rfl, j1, j2, rfl⟩
      have hint : ∃ z, c1 = c2 ∧ x1.nrm U4 [] z ∧ x2.nrm U5 [] z := by
        by_cases e : q.den = 1
        · exact ⟨_, by rw [(i1 e).1, (j1 e).1], (i1 e).2, (j1 e).2⟩
        · exact ⟨0, by rw [(i2 e).1, (j2 e).1], by rw [(i2 e).2]; exact zeroIV0_nrm, by rw [(j2 e).2]; exact zeroIV0_nrm⟩
      obtain ⟨z, rfl, hz1, hz2⟩ := hint
      have hcc : ∀ c : Bool, (!(c == c)) = false := by decide
      repeat (first | refine run_S ?_ | refine w_box (fun _ => ?_) | refine w_al (fun _ => ?_))
      rw [hcc]
      repeat (first | refine run_S ?_ | refine w_box (fun _ => ?_) | refine w_al (fun _ => ?_))
      refine sl_call rfl rfl rfl rfl rfl rfl (fun _ => rSameT_ct (hz1.up uc sb) (hz2.up uc sb)) ?_
      rintro v U' D hU ⟨rfl, rfl, rfl⟩
      repeat (first | refine run_S ?_ | refine w_box (fun _ => ?_) | refine w_al (fun _ => ?_))
      refine st_draw [0, 2, 1, 3, 4, 5, 6, 8, 7, 9, 10, 11, 12, 13, 14, 16, 17, 15, 18, 19, 20, 21, 22, 24, 23, 25, 26, 27, 28, 29, 31, 30, 32, 33, 34, 35] sym (by kernel_rfl) ?_
      repeat (first | refine run_S ?_ | refine w_box (fun _ => ?_) | refine w_al (fun _ => ?_))
      refine sl_call rfl rfl rfl rfl rfl rfl (fun _ => (qNormal_ct (ha'.up uc sb) (by omega)).settle) ?_
      rintro v Uh10 D hU ⟨rfl, _, _, ⟨xh10, rfl, h10, -⟩, -, -, hs⟩
      replace h10 := h10.sett hs
      clear hs
      repeat (first | refine run_S ?_ | refine w_box (fun _ => ?_) | refine w_al (fun _ => ?_))
      refine sl_call rfl rfl rfl rfl rfl rfl (fun _ => rqNormal_ct (ha'.up uc sb) (by omega)) ?_
      rintro v Uh11 D hU ⟨xh11, rfl, h11, rfl⟩
      repeat (first | refine run_S ?_ | refine w_box (fun _ => ?_) | refine w_al (fun _ => ?_))
      refine sl_call rfl rfl rfl rfl rfl rfl (fun _ => rqSameT_ct (h10.up uc sb) (h11.up uc sb)) ?_
      rintro v U' D hU ⟨rfl, rfl, rfl⟩
      repeat (first | refine run_S ?_ | refine w_box (fun _ => ?_) | refine w_al (fun _ => ?_))
      refine sl_call rfl rfl rfl rfl rfl rfl (fun _ => (qOf_ct hk0 hk1).settle) ?_
      rintro v Uh12 D hU ⟨rfl, _, _, ⟨xh12, rfl, h12, -⟩, -, -, hs⟩
      replace h12 := h12.sett hs
      clear hs
      repeat (first | refine run_S ?_ | refine w_box (fun _ => ?_) | refine w_al (fun _ => ?_))
      refine sl_call rfl rfl rfl rfl rfl rfl (fun _ => rqOf_ct hk0 hk1) ?_
      rintro v Uh13 D hU ⟨xh13, rfl, h13, rfl⟩
      repeat (first | refine run_S ?_ | refine w_box (fun _ => ?_) | refine w_al (fun _ => ?_))
      refine sl_call rfl rfl rfl rfl rfl rfl (fun _ => rqSameT_ct (h12.up uc sb) (h13.up uc sb)) ?_
      rintro v U' D hU ⟨rfl, rfl, rfl⟩
      repeat (first | refine run_S ?_ | refine w_box (fun _ => ?_) | refine w_al (fun _ => ?_))
      refine sl_call rfl rfl rfl rfl rfl rfl (fun _ => (qWhole_ct (h1.up uc sb) (by omega)).settle) ?_
      rintro v Uh14 D hU ⟨rfl, _, _, ⟨xh14, rfl, h14, -⟩, -, -, hs⟩
      replace h14 := h14.sett hs
      clear hs
      repeat (first | refine run_S ?_ | refine w_box (fun _ => ?_) | refine w_al (fun _ => ?_))
      refine sl_call rfl rfl rfl rfl rfl rfl (fun _ => rqWhole_ct (h1.up uc sb) (by omega)) ?_
      rintro v Uh15 D hU ⟨xh15, rfl, h15, rfl⟩
      repeat (first | refine run_S ?_ | refine w_box (fun _ => ?_) | refine w_al (fun _ => ?_))
      refine sl_call rfl rfl rfl rfl rfl rfl (fun _ => rqSameT_ct (h14.up uc sb) (h15.up uc sb)) ?_
      rintro v U' D hU ⟨rfl, rfl, rfl⟩
      repeat (first | refine run_S ?_ | refine w_box (fun _ => ?_) | refine w_al (fun _ => ?_))
      refine sl_call rfl rfl rfl rfl rfl rfl (fun _ => qSign_ct (ha'.up uc sb) (by omega)) ?_
      rintro v U' D hU ⟨rfl, rfl, rfl⟩
      repeat (first | refine run_S ?_ | refine w_box (fun _ => ?_) | refine w_al (fun _ => ?_))
      refine sl_call rfl rfl rfl rfl rfl rfl (fun _ => rqSign_ct (ha'.up uc sb) (by omega)) ?_
      rintro v U' D hU ⟨rfl, rfl, rfl⟩
      repeat (first | refine run_S ?_ | refine w_box (fun _ => ?_) | refine w_al (fun _ => ?_))
      refine sl_gdec rfl rfl (fun _ => ?_) (fun h => absurd rfl h)
      repeat (first | refine run_S ?_ | refine w_box (fun _ => ?_) | refine w_al (fun _ => ?_))
      refine sl_call rfl rfl rfl rfl rfl rfl (fun _ => qBits_ct (ha'.up uc sb) (by omega)) ?_
      rintro v _ D hU ⟨rfl, -, rfl⟩
      repeat (first | refine run_S ?_ | refine w_box (fun _ => ?_) | refine w_al (fun _ => ?_))
      refine sl_call rfl rfl rfl rfl rfl rfl (fun _ => rqBits_ct (ha'.up uc sb) (by omega)) ?_
      rintro v _ D hU ⟨rfl, -, rfl⟩
      repeat (first | refine run_S ?_ | refine w_box (fun _ => ?_) | refine w_al (fun _ => ?_))
      exact sk_ret [] sym rfl (.cons (.tmp rfl) .nil) uc sb (.inl rfl) (tup_dec rfl)
  · repeat (first | refine run_S ?_ | refine w_box (fun _ => ?_) | refine w_al (fun _ => ?_))
    exact sk_ret [] sym rfl (.cons (.tmp rfl) .nil) uc sb (.inl rfl) rfl

theorem RationalOperations_ct {a b : QV} {p q : Rat} (ha : a.rep U M p) (hb : b.rep U M q) :
    Ct Try.prog 7 [a.v, b.v] G U M fun v _ _ => v = .bool true := by
  refine ct_of_st Try.func7 rfl rfl rfl rfl ?_
  repeat (first | refine run_S ?_ | refine w_box (fun _ => ?_) | refine w_al (fun _ => ?_))
  rename_i b2 b3
  refine sl_call rfl rfl rfl rfl rfl rfl (fun _ => awake2_ct) ?_
  rintro v U1 D hU ⟨rfl, -, rfl⟩
  repeat (first | refine run_S ?_ | refine w_box (fun _ => ?_) | refine w_al (fun _ => ?_))
  refine sl_bslice (vs := [a, b].map QV.v) sym rfl rfl rfl rfl rfl rfl qvs_size rfl rfl rfl rfl rfl rfl (fun bo => ?_)
  repeat (first | refine run_S ?_ | refine w_box (fun _ => ?_) | refine w_al (fun _ => ?_))
  refine sl_call rfl rfl rfl rfl rfl rfl (fun _ => long2_ct (qvs_head.app _) rfl (by decide)) ?_
  rintro v U' D hU' ⟨r, rfl, hr, rfl, rfl⟩
  repeat (first | refine run_S ?_ | refine w_box (fun _ => ?_) | refine w_al (fun _ => ?_))
  cases r
  · have hna := hr rfl a (by simp)
    have hnb := hr rfl b (by simp)
    have sa := ha.sz hna (by decide)
    have sb2 := hb.sz hnb (by decide)
    repeat (first | refine run_S ?_ | refine w_box (fun _ => ?_) | refine w_al (fun _ => ?_))
    refine sl_call rfl rfl rfl rfl rfl rfl (fun _ => (qQuo_ct (ha.up uc sb) (by omega) (hb.up uc sb) (by omega)).settle) ?_
    rintro v U2 D hU2 ⟨rfl, _, _, ⟨x, e, rfl, hx0, hx1, -⟩, -, -, hs2⟩
    repeat (first | refine run_S ?_ | refine w_box (fun _ => ?_) | refine w_al (fun _ => ?_))
    rename_i b5
    refine sl_call rfl rfl rfl rfl rfl rfl (fun _ => rqQuo_ct (ha.up uc sb) (by omega) (hb.up uc sb) (by omega)) ?_
    rintro v U3 D hU3 ⟨y, f, rfl, hy0, hy1, rfl⟩
    repeat (first | refine run_O ?_ | refine w_box (fun _ => ?_) | refine w_al (fun _ => ?_))
    rename_i b7
    refine st_seq_cut (fun E U' M' => E = [(2, .pointer (some ⟨b2, 0, none⟩)), (3, .pointer (some ⟨b3, 0, none⟩))] ∧ ULe U U' ∧ M' = (b7, .var y.v, 26) :: (b5, .var x.v, 26) :: (bo, .arr ([a, b].map QV.v), 26) :: (b3, .var b.v, 26) :: (b2, .var a.v, 26) :: M) ?_ ?_
    · by_cases hd : q = 0
      · obtain ⟨rfl, rfl, rfl⟩ := hx0 hd
        obtain rfl := hy0 hd
        repeat (first | refine run_S ?_ | refine w_box (fun _ => ?_) | refine w_al (fun _ => ?_))
        refine sl_gdec rfl rfl (fun h => absurd rfl h) (fun _ => ?_)
        repeat (first | refine run_S ?_ | refine w_box (fun _ => ?_) | refine w_al (fun _ => ?_))
        refine sl_gdec rfl rfl (fun h => absurd h (by decide)) (fun _ => ?_)
        repeat (first | refine run_S ?_ | refine w_box (fun _ => ?_) | refine w_al (fun _ => ?_))
        refine sl_gdec rfl rfl (fun _ => ?_) (fun h => absurd (by decide) h)
        repeat (first | refine run_S ?_ | refine w_box (fun _ => ?_) | refine w_al (fun _ => ?_))
        refine sl_call rfl rfl rfl rfl rfl rfl (fun _ => none2_ct) ?_
        rintro v U' D hU ⟨rfl, rfl, rfl⟩
        repeat (first | refine run_S ?_ | refine w_box (fun _ => ?_) | refine w_al (fun _ => ?_))
        exact sk_cut (E' := [(2, .pointer (some ⟨b2, 0, none⟩)), (3, .pointer (some ⟨b3, 0, none⟩))]) ⟨rfl, rfl, trivial⟩ ⟨rfl, uc, rfl⟩
      · obtain ⟨rfl, hx2⟩ := hx1 hd
        obtain ⟨rfl, hy2⟩ := hy1 hd
        replace hx2 := hx2.sett hs2
        repeat (first | refine run_S ?_ | refine w_box (fun _ => ?_) | refine w_al (fun _ => ?_))
        refine sl_gdec rfl rfl (fun h => absurd rfl h) (fun _ => ?_)
        repeat (first | refine run_S ?_ | refine w_box (fun _ => ?_) | refine w_al (fun _ => ?_))
        refine sl_gdec rfl rfl (fun _ => ?_) (fun h => absurd rfl h)
        repeat (first | refine run_S ?_ | refine w_box (fun _ => ?_) | refine w_al (fun _ => ?_))
        refine sl_call rfl rfl rfl rfl rfl rfl (fun _ => rqSameT_ct (hx2.up uc sb) (hy2.up uc sb)) ?_
        rintro v U' D hU ⟨rfl, rfl, rfl⟩
        repeat (first | refine run_S ?_ | refine w_box (fun _ => ?_) | refine w_al (fun _ => ?_))
        refine sl_gdec rfl rfl (fun h => absurd rfl h) (fun _ => ?_)
        repeat (first | refine run_S ?_ | refine w_box (fun _ => ?_) | refine w_al (fun _ => ?_))
        exact sk_cut (E' := [(2, .pointer (some ⟨b2, 0, none⟩)), (3, .pointer (some ⟨b3, 0, none⟩))]) ⟨rfl, rfl, trivial⟩ ⟨rfl, uc, rfl⟩
    · clear hx0 hx1 hy0 hy1 hs2
      rintro E U' M' ⟨rfl, hU', rfl⟩
      repeat (first | refine run_S ?_ | refine w_box (fun _ => ?_) | refine w_al (fun _ => ?_))
      refine st_draw [0, 2, 1, 3, 4, 5, 6, 8, 7, 9, 10, 11, 12, 13, 14, 16, 17, 15, 18, 19, 20, 21, 22, 23, 25, 26, 24, 27, 28, 29, 30, 31, 32, 34, 35, 33, 36, 37, 38, 39, 40, 41, 43, 44, 42, 45, 46, 47, 48] sym (by kernel_rfl) ?_
      repeat (first | refine run_S ?_ | refine w_box (fun _ => ?_) | refine w_al (fun _ => ?_))
      refine sl_call rfl rfl rfl rfl rfl rfl (fun _ => (qNeg_ct (ha.up uc sb) (by omega)).settle) ?_
      rintro v Uh10 D hU ⟨rfl, _, _, ⟨xh10, rfl, h10, -⟩, -, -, hs⟩
      replace h10 := h10.sett hs
      clear hs
      repeat (first | refine run_S ?_ | refine w_box (fun _ => ?_) | refine w_al (fun _ => ?_))
      refine sl_call rfl rfl rfl rfl rfl rfl (fun _ => rqNeg_ct (ha.up uc sb) (by omega)) ?_
      rintro v Uh11 D hU ⟨xh11, rfl, h11, rfl⟩
      repeat (first | refine run_S ?_ | refine w_box (fun _ => ?_) | refine w_al (fun _ => ?_))
      refine sl_call rfl rfl rfl rfl rfl rfl (fun _ => rqSameT_ct (h10.up uc sb) (h11.up uc sb)) ?_
      rintro v U' D hU ⟨rfl, rfl, rfl⟩
      repeat (first | refine run_S ?_ | refine w_box (fun _ => ?_) | refine w_al (fun _ => ?_))
      refine sl_call rfl rfl rfl rfl rfl rfl (fun _ => (qAbs_ct (ha.up uc sb) (by omega)).settle) ?_
      rintro v Uh12 D hU ⟨rfl, _, _, ⟨xh12, rfl, h12, -⟩, -, -, hs⟩
      replace h12 := h12.sett hs
      clear hs
      repeat (first | refine run_S ?_ | refine w_box (fun _ => ?_) | refine w_al (fun _ => ?_))
      refine sl_call rfl rfl rfl rfl rfl rfl (fun _ => rqAbs_ct (ha.up uc sb) (by omega)) ?_
      rintro v Uh13 D hU ⟨xh13, rfl, h13, rfl⟩
      repeat (first | refine run_S ?_ | refine w_box (fun _ => ?_) | refine w_al (fun _ => ?_))
      refine sl_call rfl rfl rfl rfl rfl rfl (fun _ => rqSameT_ct (h12.up uc sb) (h13.up uc sb)) ?_
      rintro v U' D hU ⟨rfl, rfl, rfl⟩
      repeat (first | refine run_S ?_ | refine w_box (fun _ => ?_) | refine w_al (fun _ => ?_))
      refine sl_call rfl rfl rfl rfl rfl rfl (fun _ => (qAdd_ct (ha.up uc sb) (by omega) (hb.up uc sb) (by omega)).settle) ?_
      rintro v Uh14 D hU ⟨rfl, _, _, ⟨xh14, rfl, h14, -⟩, -, -, hs⟩
      replace h14 := h14.sett hs
      clear hs
      repeat (first | refine run_S ?_ | refine w_box (fun _ => ?_) | refine w_al (fun _ => ?_))
      refine sl_call rfl rfl rfl rfl rfl rfl (fun _ => rqAdd_ct (ha.up uc sb) (by omega) (hb.up uc sb) (by omega)) ?_
      rintro v Uh15 D hU ⟨xh15, rfl, h15, rfl⟩
      repeat (first | refine run_S ?_ | refine w_box (fun _ => ?_) | refine w_al (fun _ => ?_))
      refine sl_call rfl rfl rfl rfl rfl rfl (fun _ => rqSameT_ct (h14.up uc sb) (h15.up uc sb)) ?_
      rintro v U' D hU ⟨rfl, rfl, rfl⟩
      repeat (first | refine run_S ?_ | refine w_box (fun _ => ?_) | refine w_al (fun _ => ?_))
      refine sl_call rfl rfl rfl rfl rfl rfl (fun _ => (qSub_ct (ha.up uc sb) (by omega) (hb.up uc sb) (by omega)).settle) ?_
      rintro v Uh16 D hU ⟨rfl, _, _, ⟨xh16, rfl, h16, -⟩, -, -, hs⟩
      replace h16 := h16.sett hs
      clear hs
      repeat (first | refine run_S ?_ | refine w_box (fun _ => ?_) | refine w_al (fun _ => ?_))
      refine sl_call rfl rfl rfl rfl rfl rfl (fun _ => rqSub_ct (ha.up uc sb) (by omega) (hb.up uc sb) (by omega)) ?_
      rintro v Uh17 D hU ⟨xh17, rfl, h17, rfl⟩
      repeat (first | refine run_S ?_ | refine w_box (fun _ => ?_) | refine w_al (fun _ => ?_))
      refine sl_call rfl rfl rfl rfl rfl rfl (fun _ => rqSameT_ct (h16.up uc sb) (h17.up uc sb)) ?_
      rintro v U' D hU ⟨rfl, rfl, rfl⟩
      repeat (first | refine run_S ?_ | refine w_box (fun _ => ?_) | refine w_al (fun _ => ?_))
      refine sl_call rfl rfl rfl rfl rfl rfl (fun _ => (qMul_ct (ha.up uc sb) (by omega) (hb.up uc sb) (by omega)).settle) ?_
      rintro v Uh18 D hU ⟨rfl, _, _, ⟨xh18, rfl, h18, -⟩, -, -, hs⟩
      replace h18 := h18.sett hs
      clear hs
      repeat (first | refine run_S ?_ | refine w_box (fun _ => ?_) | refine w_al (fun _ => ?_))
      refine sl_call rfl rfl rfl rfl rfl rfl (fun _ => rqMul_ct (ha.up uc sb) (by omega) (hb.up uc sb) (by omega)) ?_
      rintro v Uh19 D hU ⟨xh19, rfl, h19, rfl⟩
      repeat (first | refine run_S ?_ | refine w_box (fun _ => ?_) | refine w_al (fun _ => ?_))
      refine sl_call rfl rfl rfl rfl rfl rfl (fun _ => rqSameT_ct (h18.up uc sb) (h19.up uc sb)) ?_
      rintro v U' D hU ⟨rfl, rfl, rfl⟩
      repeat (first | refine run_S ?_ | refine w_box (fun _ => ?_) | refine w_al (fun _ => ?_))
      refine sl_call rfl rfl rfl rfl rfl rfl (fun _ => qCmp_ct (ha.up uc sb) (by omega) (hb.up uc sb) (by omega)) ?_
      rintro v _ D hU ⟨rfl, -, rfl⟩
      repeat (first | refine run_S ?_ | refine w_box (fun _ => ?_) | refine w_al (fun _ => ?_))
      refine sl_call rfl rfl rfl rfl rfl rfl (fun _ => rqCmp_ct (ha.up uc sb) (by omega) (hb.up uc sb) (by omega)) ?_
      rintro v _ D hU ⟨rfl, -, rfl⟩
      repeat (first | refine run_S ?_ | refine w_box (fun _ => ?_) | refine w_al (fun _ => ?_))
      exact sk_ret [] sym rfl (.cons (.tmp rfl) .nil) uc sb (.inl rfl) (tup_dec rfl)
  · repeat (first | refine run_S ?_ | refine w_box (fun _ => ?_) | refine w_al (fun _ => ?_))
    exact sk_ret [] sym rfl (.cons (.tmp rfl) .nil) uc sb (.inl rfl) rfl

theorem whole_ceil {q : Rat} : (q.den = 1 → q.ceil = q.floor) ∧ (q.den ≠ 1 → q.ceil = q.floor + 1) := by
  constructor
  · intro h
    have e := rat_eq_num h
    rw [e, Rat.ceil_intCast, Rat.floor_intCast]
  · intro h
    unfold Rat.ceil
    rw [if_neg h, Rat.floor_def]

theorem not_whole {q : Rat} (h : q.den ≠ 1) : (q.floor : Rat) < q ∧ q < (q.ceil : Rat) := by
  have h1 := Rat.floor_le q
  have h2 := Rat.lt_floor_add_one q
  rw [(whole_ceil (q := q)).2 h]
  refine ⟨?_, h2⟩
  have : (q.floor : Rat) ≠ q := fun e => h (by rw [← e]; rfl)
  grind

theorem RationalRounds_ct {a : QV} {q : Rat} (ha : a.rep U M q) :
    Ct Try.prog 6 [a.v] G U M fun v _ _ => v = .bool true := by
  refine ct_of_st Try.func6 rfl rfl rfl rfl ?_
  repeat (first | refine run_S ?_ | refine w_box (fun _ => ?_) | refine w_al (fun _ => ?_))
  refine sl_call rfl rfl rfl rfl rfl rfl (fun _ => awake2_ct) ?_
  rintro v U1 D hU ⟨rfl, -, rfl⟩
  repeat (first | refine run_S ?_ | refine w_box (fun _ => ?_) | refine w_al (fun _ => ?_))
  refine sl_bslice (vs := [a].map QV.v) sym rfl rfl rfl rfl rfl rfl qvs_size rfl rfl rfl rfl rfl rfl (fun bo => ?_)
  repeat (first | refine run_S ?_ | refine w_box (fun _ => ?_) | refine w_al (fun _ => ?_))
  refine sl_call rfl rfl rfl rfl rfl rfl (fun _ => long2_ct (qvs_head.app _) rfl (by decide)) ?_
  rintro v U' D hU' ⟨r, rfl, hr, rfl, rfl⟩
  repeat (first | refine run_S ?_ | refine w_box (fun _ => ?_) | refine w_al (fun _ => ?_))
  cases r
  · have hna := hr rfl a (by simp)
    have sa := ha.sz hna (by decide)
    have sf := sz_floor sa
    have sc : Sz q.ceil 13 := by
      rw [Rat.ceil_eq_neg_floor_neg]
      exact ((sz_floor sa.neg).neg).mono (by decide)
    repeat (first | refine run_S ?_ | refine w_box (fun _ => ?_) | refine w_al (fun _ => ?_))
    refine st_draw [0, 2, 1, 3, 4, 5, 6, 7] sym (by kernel_rfl) ?_
    repeat (first | refine run_S ?_ | refine w_box (fun _ => ?_) | refine w_al (fun _ => ?_))
    refine sl_call rfl rfl rfl rfl rfl rfl (fun _ => qFloor_ct (ha.up uc sb) (by omega)) ?_
    rintro v Uh1 D hU ⟨xh1, rfl, h1, rfl⟩
    repeat (first | refine run_S ?_ | refine w_box (fun _ => ?_) | refine w_al (fun _ => ?_))
    refine sl_call rfl rfl rfl rfl rfl rfl (fun _ => qCeil_ct (ha.up uc sb) (by omega)) ?_
    rintro v Uh2 D hU ⟨xh2, rfl, h2, rfl⟩
    repeat (first | refine run_S ?_ | refine w_box (fun _ => ?_) | refine w_al (fun _ => ?_))
    refine st_draw [0, 1, 2, 3, 4, 5, 6, 7, 8, 9, 10, 11] sym (by kernel_rfl) ?_
    repeat (first | refine run_S ?_ | refine w_box (fun _ => ?_) | refine w_al (fun _ => ?_))
    refine sl_call rfl rfl rfl rfl rfl rfl (fun _ => rqFloor_ct (ha.up uc sb) (by omega)) ?_
    rintro v Uh3 D hU ⟨xh3, rfl, h3, rfl⟩
    repeat (first | refine run_S ?_ | refine w_box (fun _ => ?_) | refine w_al (fun _ => ?_))
    refine sl_call rfl rfl rfl rfl rfl rfl (fun _ => rSameT_ct (h1.up uc sb) (h3.up uc sb)) ?_
    rintro v U' D hU ⟨rfl, rfl, rfl⟩
    repeat (first | refine run_S ?_ | refine w_box (fun _ => ?_) | refine w_al (fun _ => ?_))
    refine sl_call rfl rfl rfl rfl rfl rfl (fun _ => rqCeil_ct (ha.up uc sb) (by omega)) ?_
    rintro v Uh4 D hU ⟨xh4, rfl, h4, rfl⟩
    repeat (first | refine run_S ?_ | refine w_box (fun _ => ?_) | refine w_al (fun _ => ?_))
    refine sl_call rfl rfl rfl rfl rfl rfl (fun _ => rSameT_ct (h2.up uc sb) (h4.up uc sb)) ?_
    rintro v U' D hU ⟨rfl, rfl, rfl⟩
    repeat (first | refine run_S ?_ | refine w_box (fun _ => ?_) | refine w_al (fun _ => ?_))
    refine sl_call rfl rfl rfl rfl rfl rfl (fun _ => qInteger_ct (ha.up uc sb) (by omega)) ?_
    rintro v U5 D hU5 ⟨x, c, rfl, i1, i2, rfl⟩
    repeat (first | refine run_S ?_ | refine w_box (fun _ => ?_) | refine w_al (fun _ => ?_))
    refine st_draw [0, 2, 1, 3, 4, 5, 6] sym (by kernel_rfl) ?_
    repeat (first | refine run_S ?_ | refine w_box (fun _ => ?_) | refine w_al (fun _ => ?_))
    refine sl_call rfl rfl rfl rfl rfl rfl (fun _ => (qWhole_ct (h2.rep.up uc sb) (h2.le (sc) (by omega))).settle) ?_
    rintro v Uh6 D hU ⟨rfl, _, _, ⟨xh6, rfl, h6, -⟩, -, -, hs⟩
    replace h6 := h6.sett hs
    clear hs
    repeat (first | refine run_S ?_ | refine w_box (fun _ => ?_) | refine w_al (fun _ => ?_))
    refine sl_call rfl rfl rfl rfl rfl rfl (fun _ => (qWhole_ct (h1.rep.up uc sb) (h1.le (sf) (by omega))).settle) ?_
    rintro v Uh7 D hU ⟨rfl, _, _, ⟨xh7, rfl, h7, -⟩, -, -, hs⟩
    replace h7 := h7.sett hs
    clear hs
    repeat (first | refine run_S ?_ | refine w_box (fun _ => ?_) | refine w_al (fun _ => ?_))
    refine sl_call rfl rfl rfl rfl rfl rfl (fun _ => (qSub_ct (h6.rep.up uc sb) (h6.le (szq_int sc (by decide)) (by omega)) (h7.rep.up uc sb) (h7.le (szq_int sf (by decide)) (by omega))).settle) ?_
    rintro v Uh8 D hU ⟨rfl, _, _, ⟨xh8, rfl, h8, -⟩, -, -, hs⟩
    replace h8 := h8.sett hs
    clear hs
    repeat (first | refine run_S ?_ | refine w_box (fun _ => ?_) | refine w_al (fun _ => ?_))
    by_cases e : q.den = 1
    · obtain ⟨rfl, -⟩ := i1 e
      have e2 : (q.ceil : Rat) - (q.floor : Rat) = ((0 : Int) : Rat) := by rw [(whole_ceil (q := q)).1 e, Rat.intCast_zero]; grind
      rw [e2] at h8
      repeat (first | refine run_S ?_ | refine w_box (fun _ => ?_) | refine w_al (fun _ => ?_))
      refine st_draw [0, 1, 2, 3] sym (by kernel_rfl) ?_
      repeat (first | refine run_S ?_ | refine w_box (fun _ => ?_) | refine w_al (fun _ => ?_))
      refine sl_call rfl rfl rfl rfl rfl rfl (fun _ => rqOf_ct (z := 0) (by decide) (by decide)) ?_
      rintro v Uh9 D hU ⟨xh9, rfl, h9, rfl⟩
      repeat (first | refine run_S ?_ | refine w_box (fun _ => ?_) | refine w_al (fun _ => ?_))
      refine sl_call rfl rfl rfl rfl rfl rfl (fun _ => rqSameT_ct (h8.up uc sb) (h9.up uc sb)) ?_
      rintro v U' D hU ⟨rfl, rfl, rfl⟩
      repeat (first | refine run_S ?_ | refine w_box (fun _ => ?_) | refine w_al (fun _ => ?_))
      exact sk_ret [] sym rfl (.cons (.tmp rfl) .nil) uc sb (.inl rfl) rfl
    · obtain ⟨rfl, -⟩ := i2 e
      obtain ⟨n1, n2⟩ := not_whole e
      have e2 : (q.ceil : Rat) - (q.floor : Rat) = ((1 : Int) : Rat) := by rw [(whole_ceil (q := q)).2 e, Rat.intCast_add]; grind
      rw [e2] at h8
      repeat (first | refine run_S ?_ | refine w_box (fun _ => ?_) | refine w_al (fun _ => ?_))
      refine st_draw [0, 1, 2, 3, 4, 6, 5, 7, 8, 9, 10, 11, 12, 13, 14, 15, 16, 17] sym (by kernel_rfl) ?_
      repeat (first | refine run_S ?_ | refine w_box (fun _ => ?_) | refine w_al (fun _ => ?_))
      refine sl_call rfl rfl rfl rfl rfl rfl (fun _ => rqOf_ct (z := 1) (by decide) (by decide)) ?_
      rintro v Uh9 D hU ⟨xh9, rfl, h9, rfl⟩
      repeat (first | refine run_S ?_ | refine w_box (fun _ => ?_) | refine w_al (fun _ => ?_))
      refine sl_call rfl rfl rfl rfl rfl rfl (fun _ => rqSameT_ct (h8.up uc sb) (h9.up uc sb)) ?_
      rintro v U' D hU ⟨rfl, rfl, rfl⟩
      repeat (first | refine run_S ?_ | refine w_box (fun _ => ?_) | refine w_al (fun _ => ?_))
      refine sl_call rfl rfl rfl rfl rfl rfl (fun _ => (qWhole_ct (h1.rep.up uc sb) (h1.le (sf) (by omega))).settle) ?_
      rintro v Uh10 D hU ⟨rfl, _, _, ⟨xh10, rfl, h10, -⟩, -, -, hs⟩
      replace h10 := h10.sett hs
      clear hs
      repeat (first | refine run_S ?_ | refine w_box (fun _ => ?_) | refine w_al (fun _ => ?_))
      refine sl_call rfl rfl rfl rfl rfl rfl (fun _ => qCmp_ct (h10.rep.up uc sb) (h10.le (szq_int sf (by decide)) (by omega)) (ha.up uc sb) (by omega)) ?_
      rintro v _ D hU ⟨rfl, -, rfl⟩
      repeat (first | refine run_S ?_ | refine w_box (fun _ => ?_) | refine w_al (fun _ => ?_))
      refine sl_gdec rfl rfl (fun _ => ?_) (fun h => absurd (rcmp_lt.2 n1) h)
      repeat (first | refine run_S ?_ | refine w_box (fun _ => ?_) | refine w_al (fun _ => ?_))
      refine sl_call rfl rfl rfl rfl rfl rfl (fun _ => (qWhole_ct (h2.rep.up uc sb) (h2.le (sc) (by omega))).settle) ?_
      rintro v Uh11 D hU ⟨rfl, _, _, ⟨xh11, rfl, h11, -⟩, -, -, hs⟩
      replace h11 := h11.sett hs
      clear hs
      repeat (first | refine run_S ?_ | refine w_box (fun _ => ?_) | refine w_al (fun _ => ?_))
      refine sl_call rfl rfl rfl rfl rfl rfl (fun _ => qCmp_ct (ha.up uc sb) (by omega) (h11.rep.up uc sb) (h11.le (szq_int sc (by decide)) (by omega))) ?_
      rintro v _ D hU ⟨rfl, -, rfl⟩
      repeat (first | refine run_S ?_ | refine w_box (fun _ => ?_) | refine w_al (fun _ => ?_))
      exact sk_ret [] sym rfl (.cons (.tmp rfl) .nil) uc sb (.inl rfl) (tup_dec (rcmp_lt.2 n2))
  · repeat (first | refine run_S ?_ | refine w_box (fun _ => ?_) | refine w_al (fun _ => ?_))
    exact sk_ret [] sym rfl (.cons (.tmp rfl) .nil) uc sb (.inl rfl) rfl

end Go.Proofs.Ytcndgdjelopmaaa
