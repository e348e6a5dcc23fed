/- The law of layer 13 on what is refused. -/
import Derived.Test.YtpigpikhjlmdoaaB165
import Derived.Test.YtpigpikhjlmdoaaB186
namespace Go.Proofs.Ytpigpikhjlmdoaa
open Go.Hp
open Go.Fq (Pm Fp Prm)
variable {G : World} {U U' : UH} {M M' : MH}

theorem errF_p {P : Pm} {r c : Int} {n : Nat} (hP : modP (P.1 : Int) = true) : errF (P.1 : Int) r c n = if Vld r c n then 0 else 4 := by unfold errF; rw [hP, if_pos rfl]
theorem errF_np {w r c : Int} {n : Nat} (hP : modP w = false) : errF w r c n = 8 := by unfold errF; rw [hP, if_neg (by decide)]

theorem one_rw {α : Type} {P : Nat → α → Prop} {a : α} (h0 : P 0 a) : ∀ k v, [a][k]? = some v → P k v
  | 0, v, h => by cases h; exact h0
  | k + 1, v, h => by simp at h

set_option maxHeartbeats 8000000 in
set_option maxRecDepth 100000 in
theorem ModmatrixRefuses_ct {w : Int} {va vb : Value} {ra ca rb cb : Int} {na nb : Nat} {fa fb : Nat → Int} (_ : -9223372036854775808 ≤ w) (_ : w ≤ 9223372036854775807) (ha : RawO Vz 1 U va ra ca na fa) (hb : RawO Vz 1 U vb rb cb nb fb) :
    Ct Try.prog 6 [.int .i64 w, va, vb] G U M fun v _ _ => v = .bool true := by
  have hd1 : dec ((0 : Int) = 0) = true := dec_true rfl
  have hd2 : dec ((4 : Int) = 0) = false := dec_false (by decide)
  have ha0 := ha
  have hb0 := hb
  obtain ⟨ha1, ha2, ha3, _, rfl, pa, cca, xsa, rfl, -⟩ := ha
  obtain ⟨hb1, hb2, hb3, _, rfl, pb, ccb, xsb, rfl, -⟩ := hb
  refine ct_of_st Try.func6 rfl rfl rfl rfl ?_
  repeat (first | refine run_S ?_ | refine w_box (fun _ => ?_) | refine w_al (fun _ => ?_))
  rename_i b4 b5
  refine sl_call rfl rfl rfl rfl rfl rfl (fun _ => awake13_ct) ?_
  rintro v1 U1 D hU1 ⟨rfl, -, rfl⟩
  rw [List.nil_append]
  repeat (first | refine run_O ?_ | refine w_box (fun _ => ?_) | refine w_al (fun _ => ?_))
  refine st_seq_cut (fun E U' M' => (Vld ra ca na → ra ≤ 5 ∧ ca ≤ 5) ∧ (Vld rb cb nb → rb ≤ 5 ∧ cb ≤ 5) ∧ E = [(0, .int .i64 w), (4, .pointer (some ⟨b4, 0, none⟩)), (5, .pointer (some ⟨b5, 0, none⟩))] ∧ ULe U1 U' ∧ M' = (b5, .var (.agg #[.int .i64 rb, .int .i64 cb, .slice pb nb ccb]), TF) :: (b4, .var (.agg #[.int .i64 ra, .int .i64 ca, .slice pa na cca]), TF) :: M) ?_ ?_
  · try refine run_s ?_
    refine sl_gdec rfl rfl (fun h => ?_) (fun h1 => ?_)
    · repeat (first | refine run_S ?_ | refine w_box (fun _ => ?_) | refine w_al (fun _ => ?_))
      exact sk_ret [] sym rfl (.cons (.tmp rfl) .nil) uc sb (.inl rfl) rfl
    repeat (first | refine run_S ?_ | refine w_box (fun _ => ?_) | refine w_al (fun _ => ?_))
    refine sl_gdec rfl rfl (fun h => ?_) (fun h2 => ?_)
    · repeat (first | refine run_S ?_ | refine w_box (fun _ => ?_) | refine w_al (fun _ => ?_))
      exact sk_ret [] sym rfl (.cons (.tmp rfl) .nil) uc sb (.inl rfl) rfl
    repeat (first | refine run_S ?_ | refine w_box (fun _ => ?_) | refine w_al (fun _ => ?_))
    refine sl_call rfl rfl rfl rfl rfl rfl (fun _ => z13Valid_ct (r := ra) (c := ca) (p := pa) (cc := cca) ha3) ?_
    rintro v U' D hU ⟨rfl, rfl, rfl⟩
    repeat (first | refine run_S ?_ | refine w_box (fun _ => ?_) | refine w_al (fun _ => ?_))
    by_cases hVa : Vld ra ca na
    · rw [decide_eq_true hVa]
      repeat (first | refine run_S ?_ | refine w_box (fun _ => ?_) | refine w_al (fun _ => ?_))
      refine sl_bslice (vs := [.agg #[.int .i64 ra, .int .i64 ca, .slice pa na cca]]) sym rfl rfl rfl rfl rfl rfl (all_size rfl) rfl rfl rfl rfl rfl rfl (fun bl => ?_)
      refine sl_call rfl rfl rfl rfl rfl rfl (fun _ => light13_ct (most := 5) (r := fun _ => ra) (c := fun _ => ca) (n := fun _ => na) (f := fun _ => fa) ((RowO.mk (e := TF) (s := 3) (b := bl) (n := 1) (vs := [.agg #[.int .i64 ra, .int .i64 ca, .slice pa na cca]]) rfl (all_size rfl) (by omega)).at sb) (one_rw (P := fun _ v => RawO Vz 1 _ v ra ca na fa) (ha0.up uc)) (by decide)) ?_
      rintro v2 U2 D hU2 ⟨b, rfl, hl, rfl, rfl⟩
      rw [List.nil_append]
      cases b
      · repeat (first | refine run_S ?_ | refine w_box (fun _ => ?_) | refine w_al (fun _ => ?_))
        exact sk_ret [] sym rfl (.cons (.tmp rfl) .nil) uc sb (.inl rfl) rfl
      have hla := (hl.1 rfl 0 (by decide)).2
      repeat (first | refine run_S ?_ | refine w_box (fun _ => ?_) | refine w_al (fun _ => ?_))
      refine sl_call rfl rfl rfl rfl rfl rfl (fun _ => z13Valid_ct (r := rb) (c := cb) (p := pb) (cc := ccb) hb3) ?_
      rintro v U' D hU ⟨rfl, rfl, rfl⟩
      repeat (first | refine run_S ?_ | refine w_box (fun _ => ?_) | refine w_al (fun _ => ?_))
      by_cases hVb : Vld rb cb nb
      · rw [decide_eq_true hVb]
        repeat (first | refine run_S ?_ | refine w_box (fun _ => ?_) | refine w_al (fun _ => ?_))
        refine sl_bslice (vs := [.agg #[.int .i64 rb, .int .i64 cb, .slice pb nb ccb]]) sym rfl rfl rfl rfl rfl rfl (all_size rfl) rfl rfl rfl rfl rfl rfl (fun bl => ?_)
        refine sl_call rfl rfl rfl rfl rfl rfl (fun _ => light13_ct (most := 5) (r := fun _ => rb) (c := fun _ => cb) (n := fun _ => nb) (f := fun _ => fb) ((RowO.mk (e := TF) (s := 3) (b := bl) (n := 1) (vs := [.agg #[.int .i64 rb, .int .i64 cb, .slice pb nb ccb]]) rfl (all_size rfl) (by omega)).at sb) (one_rw (P := fun _ v => RawO Vz 1 _ v rb cb nb fb) (hb0.up uc)) (by decide)) ?_
        rintro v2 U2 D hU2 ⟨b, rfl, hl, rfl, rfl⟩
        rw [List.nil_append]
        cases b
        · repeat (first | refine run_S ?_ | refine w_box (fun _ => ?_) | refine w_al (fun _ => ?_))
          exact sk_ret [] sym rfl (.cons (.tmp rfl) .nil) uc sb (.inl rfl) rfl
        have hlb := (hl.1 rfl 0 (by decide)).2
        repeat (first | refine run_S ?_ | refine w_box (fun _ => ?_) | refine w_al (fun _ => ?_))
        refine sk_anti (M' := (b5, .var (.agg #[.int .i64 rb, .int .i64 cb, .slice pb nb ccb]), TF) :: (b4, .var (.agg #[.int .i64 ra, .int .i64 ca, .slice pa na cca]), TF) :: M) (ULe.refl _) sbk ?_
        exact sk_cut (E' := [(0, .int .i64 w), (4, .pointer (some ⟨b4, 0, none⟩)), (5, .pointer (some ⟨b5, 0, none⟩))]) ⟨rfl, rfl, rfl, trivial⟩ ⟨(fun _ => hla), (fun _ => hlb), rfl, uc, rfl⟩
      · rw [decide_eq_false hVb]
        repeat (first | refine run_S ?_ | refine w_box (fun _ => ?_) | refine w_al (fun _ => ?_))
        refine sk_anti (M' := (b5, .var (.agg #[.int .i64 rb, .int .i64 cb, .slice pb nb ccb]), TF) :: (b4, .var (.agg #[.int .i64 ra, .int .i64 ca, .slice pa na cca]), TF) :: M) (ULe.refl _) sbk ?_
        exact sk_cut (E' := [(0, .int .i64 w), (4, .pointer (some ⟨b4, 0, none⟩)), (5, .pointer (some ⟨b5, 0, none⟩))]) ⟨rfl, rfl, rfl, trivial⟩ ⟨(fun _ => hla), (fun h => absurd h hVb), rfl, uc, rfl⟩
    · rw [decide_eq_false hVa]
      repeat (first | refine run_S ?_ | refine w_box (fun _ => ?_) | refine w_al (fun _ => ?_))
      refine sl_call rfl rfl rfl rfl rfl rfl (fun _ => z13Valid_ct (r := rb) (c := cb) (p := pb) (cc := ccb) hb3) ?_
      rintro v U' D hU ⟨rfl, rfl, rfl⟩
      repeat (first | refine run_S ?_ | refine w_box (fun _ => ?_) | refine w_al (fun _ => ?_))
      by_cases hVb : Vld rb cb nb
      · rw [decide_eq_true hVb]
        repeat (first | refine run_S ?_ | refine w_box (fun _ => ?_) | refine w_al (fun _ => ?_))
        refine sl_bslice (vs := [.agg #[.int .i64 rb, .int .i64 cb, .slice pb nb ccb]]) sym rfl rfl rfl rfl rfl rfl (all_size rfl) rfl rfl rfl rfl rfl rfl (fun bl => ?_)
        refine sl_call rfl rfl rfl rfl rfl rfl (fun _ => light13_ct (most := 5) (r := fun _ => rb) (c := fun _ => cb) (n := fun _ => nb) (f := fun _ => fb) ((RowO.mk (e := TF) (s := 3) (b := bl) (n := 1) (vs := [.agg #[.int .i64 rb, .int .i64 cb, .slice pb nb ccb]]) rfl (all_size rfl) (by omega)).at sb) (one_rw (P := fun _ v => RawO Vz 1 _ v rb cb nb fb) (hb0.up uc)) (by decide)) ?_
        rintro v2 U2 D hU2 ⟨b, rfl, hl, rfl, rfl⟩
        rw [List.nil_append]
        cases b
        · repeat (first | refine run_S ?_ | refine w_box (fun _ => ?_) | refine w_al (fun _ => ?_))
          exact sk_ret [] sym rfl (.cons (.tmp rfl) .nil) uc sb (.inl rfl) rfl
        have hlb := (hl.1 rfl 0 (by decide)).2
        repeat (first | refine run_S ?_ | refine w_box (fun _ => ?_) | refine w_al (fun _ => ?_))
        refine sk_anti (M' := (b5, .var (.agg #[.int .i64 rb, .int .i64 cb, .slice pb nb ccb]), TF) :: (b4, .var (.agg #[.int .i64 ra, .int .i64 ca, .slice pa na cca]), TF) :: M) (ULe.refl _) sbk ?_
        exact sk_cut (E' := [(0, .int .i64 w), (4, .pointer (some ⟨b4, 0, none⟩)), (5, .pointer (some ⟨b5, 0, none⟩))]) ⟨rfl, rfl, rfl, trivial⟩ ⟨(fun h => absurd h hVa), (fun _ => hlb), rfl, uc, rfl⟩
      · rw [decide_eq_false hVb]
        repeat (first | refine run_S ?_ | refine w_box (fun _ => ?_) | refine w_al (fun _ => ?_))
        refine sk_anti (M' := (b5, .var (.agg #[.int .i64 rb, .int .i64 cb, .slice pb nb ccb]), TF) :: (b4, .var (.agg #[.int .i64 ra, .int .i64 ca, .slice pa na cca]), TF) :: M) (ULe.refl _) sbk ?_
        exact sk_cut (E' := [(0, .int .i64 w), (4, .pointer (some ⟨b4, 0, none⟩)), (5, .pointer (some ⟨b5, 0, none⟩))]) ⟨rfl, rfl, rfl, trivial⟩ ⟨(fun h => absurd h hVa), (fun h => absurd h hVb), rfl, uc, rfl⟩
  rintro E U2 M' ⟨hLa, hLb, rfl, hU2, rfl⟩
  cases hP : modP w
  · have eA : errF w ra ca na = 8 := errF_np hP
    have eM : errM w ra ca rb cb na nb = 8 := by unfold errM; rw [eA, if_pos (by decide)]
    have eS : errS w ra ca na = 8 := by unfold errS; rw [eA, if_neg (by decide)]
    repeat (first | refine run_S ?_ | refine w_box (fun _ => ?_) | refine w_al (fun _ => ?_))
    refine sl_call rfl rfl rfl rfl rfl rfl (fun _ => fMul_e (w := w) (pa := pa) (pb := pb) (cca := cca) (ccb := ccb) ha3 hb3 (by rw [eM]; decide)) ?_
    rintro v1 U3 D hU3 ⟨rfl, -, rfl⟩
    rw [List.nil_append, eM]
    repeat (first | refine run_S ?_ | refine w_box (fun _ => ?_) | refine w_al (fun _ => ?_))
    refine sl_call rfl rfl rfl rfl rfl rfl (fun _ => fEch_e (w := w) (pa := pa) (cc := cca) ha3 (by rw [eA]; decide)) ?_
    rintro v2 U4 D hU4 ⟨rfl, -, rfl⟩
    rw [List.nil_append, eA]
    repeat (first | refine run_S ?_ | refine w_box (fun _ => ?_) | refine w_al (fun _ => ?_))
    refine sl_call rfl rfl rfl rfl rfl rfl (fun _ => fRank_e (w := w) (pa := pa) (cc := cca) ha3 (by rw [eA]; decide)) ?_
    rintro v3 U5 D hU5 ⟨rfl, -, rfl⟩
    rw [List.nil_append, eA]
    repeat (first | refine run_S ?_ | refine w_box (fun _ => ?_) | refine w_al (fun _ => ?_))
    refine sl_call rfl rfl rfl rfl rfl rfl (fun _ => fKer_e (w := w) (pa := pa) (cc := cca) ha3 (by rw [eA]; decide)) ?_
    rintro v4 U6 D hU6 ⟨rfl, -, rfl⟩
    rw [List.nil_append, eA]
    repeat (first | refine run_S ?_ | refine w_box (fun _ => ?_) | refine w_al (fun _ => ?_))
    refine sl_call rfl rfl rfl rfl rfl rfl (fun _ => fDet_e (w := w) (pa := pa) (cc := cca) ha3 (by rw [eS]; decide)) ?_
    rintro v5 U7 D hU7 ⟨rfl, -, rfl⟩
    rw [List.nil_append, eS]
    repeat (first | refine run_S ?_ | refine w_box (fun _ => ?_) | refine w_al (fun _ => ?_))
    refine sl_call rfl rfl rfl rfl rfl rfl (fun _ => fCP_e (w := w) (pa := pa) (cc := cca) ha3 (by rw [eS]; decide)) ?_
    rintro v6 U8 D hU8 ⟨rfl, -, rfl⟩
    rw [List.nil_append, eS]
    repeat (first | refine run_S ?_ | refine w_box (fun _ => ?_) | refine w_al (fun _ => ?_))
    refine sl_call rfl rfl rfl rfl rfl rfl (fun _ => z4Modulus_ct (z := w)) ?_
    rintro v U' D hU ⟨rfl, rfl, rfl⟩
    repeat (first | refine run_S ?_ | refine w_box (fun _ => ?_) | refine w_al (fun _ => ?_))
    rw [hP]
    repeat (first | refine run_S ?_ | refine w_box (fun _ => ?_) | refine w_al (fun _ => ?_) | refine sl_gdec rfl rfl (fun h => absurd h (by decide)) (fun _ => ?_) | refine sl_gdec rfl rfl (fun _ => ?_) (fun h => absurd (by decide) h) | rw [hd1] | rw [hd2] | refine st_dec rfl (fun h => absurd h (by decide)) (fun _ => ?_))
    refine sl_bslice (vs := [zFM, zFM, zFM]) sym rfl rfl rfl rfl rfl rfl (all_size rfl) rfl rfl rfl rfl rfl rfl (fun bn => ?_)
    refine sl_call rfl rfl rfl rfl rfl rfl (fun _ => none13_ct (vs := [zFM, zFM, zFM]) ((RowO.mk (e := TF) (s := 3) (b := bn) (n := 3) (vs := [zFM, zFM, zFM]) rfl (all_size rfl) (by omega)).at sb) (fun v hv => by simpa using hv) (by decide)) ?_
    rintro v U' D hU ⟨rfl, rfl, rfl⟩
    repeat (first | refine run_S ?_ | refine w_box (fun _ => ?_) | refine w_al (fun _ => ?_))
    repeat (first | refine run_S ?_ | refine w_box (fun _ => ?_) | refine w_al (fun _ => ?_) | refine sl_gdec rfl rfl (fun h => absurd h (by decide)) (fun _ => ?_) | refine sl_gdec rfl rfl (fun _ => ?_) (fun h => absurd (by decide) h) | rw [hd1] | rw [hd2] | refine st_dec rfl (fun h => absurd h (by decide)) (fun _ => ?_))
    refine sk_ret [] sym rfl (.cons (.tmp rfl) .nil) uc sb (.inl rfl) ?_
    exact congrArg Value.bool (dec_true rfl)
  obtain ⟨P, rfl, hp⟩ := modP_get hP
  by_cases hVa : Vld ra ca na
  rotate_left
  · have eA : errF (P.1 : Int) ra ca na = 4 := by rw [errF_p hP, if_neg hVa]
    have eM : errM (P.1 : Int) ra ca rb cb na nb = 4 := by unfold errM; rw [eA, if_pos (by decide)]
    have eS : errS (P.1 : Int) ra ca na = 4 := by unfold errS; rw [eA, if_neg (by decide)]
    repeat (first | refine run_S ?_ | refine w_box (fun _ => ?_) | refine w_al (fun _ => ?_))
    refine sl_call rfl rfl rfl rfl rfl rfl (fun _ => fMul_e (w := (P.1 : Int)) (pa := pa) (pb := pb) (cca := cca) (ccb := ccb) ha3 hb3 (by rw [eM]; decide)) ?_
    rintro v1 U3 D hU3 ⟨rfl, -, rfl⟩
    rw [List.nil_append, eM]
    repeat (first | refine run_S ?_ | refine w_box (fun _ => ?_) | refine w_al (fun _ => ?_))
    refine sl_call rfl rfl rfl rfl rfl rfl (fun _ => fEch_e (w := (P.1 : Int)) (pa := pa) (cc := cca) ha3 (by rw [eA]; decide)) ?_
    rintro v2 U4 D hU4 ⟨rfl, -, rfl⟩
    rw [List.nil_append, eA]
    repeat (first | refine run_S ?_ | refine w_box (fun _ => ?_) | refine w_al (fun _ => ?_))
    refine sl_call rfl rfl rfl rfl rfl rfl (fun _ => fRank_e (w := (P.1 : Int)) (pa := pa) (cc := cca) ha3 (by rw [eA]; decide)) ?_
    rintro v3 U5 D hU5 ⟨rfl, -, rfl⟩
    rw [List.nil_append, eA]
    repeat (first | refine run_S ?_ | refine w_box (fun _ => ?_) | refine w_al (fun _ => ?_))
    refine sl_call rfl rfl rfl rfl rfl rfl (fun _ => fKer_e (w := (P.1 : Int)) (pa := pa) (cc := cca) ha3 (by rw [eA]; decide)) ?_
    rintro v4 U6 D hU6 ⟨rfl, -, rfl⟩
    rw [List.nil_append, eA]
    repeat (first | refine run_S ?_ | refine w_box (fun _ => ?_) | refine w_al (fun _ => ?_))
    refine sl_call rfl rfl rfl rfl rfl rfl (fun _ => fDet_e (w := (P.1 : Int)) (pa := pa) (cc := cca) ha3 (by rw [eS]; decide)) ?_
    rintro v5 U7 D hU7 ⟨rfl, -, rfl⟩
    rw [List.nil_append, eS]
    repeat (first | refine run_S ?_ | refine w_box (fun _ => ?_) | refine w_al (fun _ => ?_))
    refine sl_call rfl rfl rfl rfl rfl rfl (fun _ => fCP_e (w := (P.1 : Int)) (pa := pa) (cc := cca) ha3 (by rw [eS]; decide)) ?_
    rintro v6 U8 D hU8 ⟨rfl, -, rfl⟩
    rw [List.nil_append, eS]
    repeat (first | refine run_S ?_ | refine w_box (fun _ => ?_) | refine w_al (fun _ => ?_))
    refine sl_call rfl rfl rfl rfl rfl rfl (fun _ => z4Modulus_ct (z := (P.1 : Int))) ?_
    rintro v U' D hU ⟨rfl, rfl, rfl⟩
    repeat (first | refine run_S ?_ | refine w_box (fun _ => ?_) | refine w_al (fun _ => ?_))
    rw [hP]
    repeat (first | refine run_S ?_ | refine w_box (fun _ => ?_) | refine w_al (fun _ => ?_))
    refine sl_call rfl rfl rfl rfl rfl rfl (fun _ => z13Valid_ct (r := ra) (c := ca) (p := pa) (cc := cca) ha3) ?_
    rintro v U' D hU ⟨rfl, rfl, rfl⟩
    repeat (first | refine run_S ?_ | refine w_box (fun _ => ?_) | refine w_al (fun _ => ?_))
    rw [decide_eq_false hVa]
    repeat (first | refine run_S ?_ | refine w_box (fun _ => ?_) | refine w_al (fun _ => ?_) | refine sl_gdec rfl rfl (fun h => absurd h (by decide)) (fun _ => ?_) | refine sl_gdec rfl rfl (fun _ => ?_) (fun h => absurd (by decide) h) | rw [hd1] | rw [hd2] | refine st_dec rfl (fun h => absurd h (by decide)) (fun _ => ?_))
    refine sl_bslice (vs := [zFM]) sym rfl rfl rfl rfl rfl rfl (all_size rfl) rfl rfl rfl rfl rfl rfl (fun bn => ?_)
    refine sl_call rfl rfl rfl rfl rfl rfl (fun _ => none13_ct (vs := [zFM]) ((RowO.mk (e := TF) (s := 3) (b := bn) (n := 1) (vs := [zFM]) rfl (all_size rfl) (by omega)).at sb) (fun v hv => by simpa using hv) (by decide)) ?_
    rintro v U' D hU ⟨rfl, rfl, rfl⟩
    repeat (first | refine run_S ?_ | refine w_box (fun _ => ?_) | refine w_al (fun _ => ?_))
    repeat (first | refine run_S ?_ | refine w_box (fun _ => ?_) | refine w_al (fun _ => ?_) | refine sl_gdec rfl rfl (fun h => absurd h (by decide)) (fun _ => ?_) | refine sl_gdec rfl rfl (fun _ => ?_) (fun h => absurd (by decide) h) | rw [hd1] | rw [hd2] | refine st_dec rfl (fun h => absurd h (by decide)) (fun _ => ?_))
    refine sl_bslice (vs := [zFM, zFM]) sym rfl rfl rfl rfl rfl rfl (all_size rfl) rfl rfl rfl rfl rfl rfl (fun bn => ?_)
    refine sl_call rfl rfl rfl rfl rfl rfl (fun _ => none13_ct (vs := [zFM, zFM]) ((RowO.mk (e := TF) (s := 3) (b := bn) (n := 2) (vs := [zFM, zFM]) rfl (all_size rfl) (by omega)).at sb) (fun v hv => by simpa using hv) (by decide)) ?_
    rintro v U' D hU ⟨rfl, rfl, rfl⟩
    repeat (first | refine run_S ?_ | refine w_box (fun _ => ?_) | refine w_al (fun _ => ?_))
    repeat (first | refine run_S ?_ | refine w_box (fun _ => ?_) | refine w_al (fun _ => ?_) | refine sl_gdec rfl rfl (fun h => absurd h (by decide)) (fun _ => ?_) | refine sl_gdec rfl rfl (fun _ => ?_) (fun h => absurd (by decide) h) | rw [hd1] | rw [hd2] | refine st_dec rfl (fun h => absurd h (by decide)) (fun _ => ?_))
    refine sk_ret [] sym rfl (.cons (.tmp rfl) .nil) uc sb (.inl rfl) ?_
    exact congrArg Value.bool (dec_true rfl)
  obtain ⟨R, C, rfl, rfl, rfl, hA⟩ := ha0.vmz hVa
  have hR5 : R ≤ 5 := by have := (hLa hVa).1; omega
  have hC5 : C ≤ 5 := by have := (hLa hVa).2; omega
  have eA : errF (P.1 : Int) (R : Int) (C : Int) (R * C) = 0 := by rw [errF_p hP, if_pos hVa]
  by_cases hVb : Vld rb cb nb
  · have eB : errF (P.1 : Int) rb cb nb = 0 := by rw [errF_p hP, if_pos hVb]
    by_cases hcr : (C : Int) = rb
    · have hC5b : cb ≤ 5 := (hLb hVb).2
      obtain ⟨R2, C2, rfl, rfl, rfl, hB⟩ := hb0.vmz hVb
      obtain rfl : C = R2 := by omega
      have hd3 : dec ((C : Int) = (C : Int)) = true := dec_true rfl
      by_cases hsq : (R : Int) = (C : Int)
      · obtain rfl : R = C := by omega
        have hd4 : dec ((R : Int) = (R : Int)) = true := dec_true rfl
        repeat (first | refine run_S ?_ | refine w_box (fun _ => ?_) | refine w_al (fun _ => ?_))
        refine sl_call rfl rfl rfl rfl rfl rfl (fun _ => fMul_ct (P := P) (hA.mm uc) (hB.mm uc) hp (by omega) (by omega) (by omega)) ?_
        rintro v1 U3 D hU3 ⟨vR, rfl, h3, rfl⟩
        rw [List.nil_append]
        obtain ⟨_, rfl, p3, c3, us3, rfl, -⟩ := id h3
        repeat (first | refine run_S ?_ | refine w_box (fun _ => ?_) | refine w_al (fun _ => ?_))
        refine sl_call rfl rfl rfl rfl rfl rfl (fun _ => fEchelon_ct (P := P) (hA.mm uc) hp (by omega) (by omega)) ?_
        rintro v4 U4 D hU4 ⟨r1, R1, p1, _, _, rfl, h4, h4p, rfl, hE1⟩
        rw [List.nil_append]
        obtain ⟨_, rfl, p4, c4, us4, rfl, -⟩ := id h4
        obtain ⟨p5, c5, us5, rfl, -⟩ := id h4p
        repeat (first | refine run_S ?_ | refine w_box (fun _ => ?_) | refine w_al (fun _ => ?_))
        refine sl_call rfl rfl rfl rfl rfl rfl (fun _ => fRank_ct (P := P) (hA.mm uc) hp (by omega) (by omega)) ?_
        rintro v5 U5 D hU5 ⟨r2, R2x, p2, rfl, -, -, rfl⟩
        rw [List.nil_append]
        repeat (first | refine run_S ?_ | refine w_box (fun _ => ?_) | refine w_al (fun _ => ?_))
        refine sl_call rfl rfl rfl rfl rfl rfl (fun _ => fKernel_ct (P := P) (hA.mm uc) hp (by omega) (by omega)) ?_
        rintro v6 U6 D hU6 ⟨s1, K1, q1, _, rfl, h6, rfl, -⟩
        rw [List.nil_append]
        obtain ⟨_, rfl, p6, c6, us6, rfl, -⟩ := id h6
        repeat (first | refine run_S ?_ | refine w_box (fun _ => ?_) | refine w_al (fun _ => ?_))
        refine sl_call rfl rfl rfl rfl rfl rfl (fun _ => fDet_ct (P := P) (hA.mm uc) hp (by omega)) ?_
        rintro v7 U7 D hU7 ⟨rfl, -, rfl⟩
        rw [List.nil_append]
        repeat (first | refine run_S ?_ | refine w_box (fun _ => ?_) | refine w_al (fun _ => ?_))
        refine sl_call rfl rfl rfl rfl rfl rfl (fun _ => fCharPoly_ct (P := P) (hA.mm uc) hp (by omega)) ?_
        rintro v8 U8 D hU8 ⟨_, rfl, h8, rfl⟩
        rw [List.nil_append]
        obtain ⟨p8, c8, us8, rfl, -⟩ := id h8
        repeat (first | refine run_S ?_ | refine w_box (fun _ => ?_) | refine w_al (fun _ => ?_))
        refine sl_call rfl rfl rfl rfl rfl rfl (fun _ => z4Modulus_ct (z := (P.1 : Int))) ?_
        rintro v U' D hU ⟨rfl, rfl, rfl⟩
        repeat (first | refine run_S ?_ | refine w_box (fun _ => ?_) | refine w_al (fun _ => ?_))
        rw [hP]
        repeat (first | refine run_S ?_ | refine w_box (fun _ => ?_) | refine w_al (fun _ => ?_))
        refine sl_call rfl rfl rfl rfl rfl rfl (fun _ => z13Valid_ct (r := (R : Int)) (c := (R : Int)) (p := pa) (cc := cca) ha3) ?_
        rintro v U' D hU ⟨rfl, rfl, rfl⟩
        repeat (first | refine run_S ?_ | refine w_box (fun _ => ?_) | refine w_al (fun _ => ?_))
        rw [decide_eq_true hVa]
        repeat (first | refine run_S ?_ | refine w_box (fun _ => ?_) | refine w_al (fun _ => ?_))
        refine sl_call rfl rfl rfl rfl rfl rfl (fun _ => z13Valid_ct (r := (R : Int)) (c := (C2 : Int)) (p := pb) (cc := ccb) hb3) ?_
        rintro v U' D hU ⟨rfl, rfl, rfl⟩
        repeat (first | refine run_S ?_ | refine w_box (fun _ => ?_) | refine w_al (fun _ => ?_))
        rw [decide_eq_true hVb]
        repeat (first | refine run_S ?_ | refine w_box (fun _ => ?_) | refine w_al (fun _ => ?_) | refine sl_gdec rfl rfl (fun h => absurd h (by decide)) (fun _ => ?_) | refine sl_gdec rfl rfl (fun _ => ?_) (fun h => absurd (by decide) h) | rw [hd3] | rw [hd4] | rw [hd1] | rw [hd2] | refine st_dec rfl (fun h => absurd h (by decide)) (fun _ => ?_))
        exact sk_ret [] sym rfl (.cons (.tmp rfl) .nil) uc sb (.inl rfl) rfl
      · have hd4 : dec ((R : Int) = (C : Int)) = false := dec_false hsq
        have eS : errS (P.1 : Int) (R : Int) (C : Int) (R * C) = 4 := by unfold errS; rw [eA, if_pos rfl, if_neg hsq]
        repeat (first | refine run_S ?_ | refine w_box (fun _ => ?_) | refine w_al (fun _ => ?_))
        refine sl_call rfl rfl rfl rfl rfl rfl (fun _ => fMul_ct (P := P) (hA.mm uc) (hB.mm uc) hp (by omega) (by omega) (by omega)) ?_
        rintro v1 U3 D hU3 ⟨vR, rfl, h3, rfl⟩
        rw [List.nil_append]
        obtain ⟨_, rfl, p3, c3, us3, rfl, -⟩ := id h3
        repeat (first | refine run_S ?_ | refine w_box (fun _ => ?_) | refine w_al (fun _ => ?_))
        refine sl_call rfl rfl rfl rfl rfl rfl (fun _ => fEchelon_ct (P := P) (hA.mm uc) hp (by omega) (by omega)) ?_
        rintro v4 U4 D hU4 ⟨r1, R1, p1, _, _, rfl, h4, h4p, rfl, hE1⟩
        rw [List.nil_append]
        obtain ⟨_, rfl, p4, c4, us4, rfl, -⟩ := id h4
        obtain ⟨p5, c5, us5, rfl, -⟩ := id h4p
        repeat (first | refine run_S ?_ | refine w_box (fun _ => ?_) | refine w_al (fun _ => ?_))
        refine sl_call rfl rfl rfl rfl rfl rfl (fun _ => fRank_ct (P := P) (hA.mm uc) hp (by omega) (by omega)) ?_
        rintro v5 U5 D hU5 ⟨r2, R2x, p2, rfl, -, -, rfl⟩
        rw [List.nil_append]
        repeat (first | refine run_S ?_ | refine w_box (fun _ => ?_) | refine w_al (fun _ => ?_))
        refine sl_call rfl rfl rfl rfl rfl rfl (fun _ => fKernel_ct (P := P) (hA.mm uc) hp (by omega) (by omega)) ?_
        rintro v6 U6 D hU6 ⟨s1, K1, q1, _, rfl, h6, rfl, -⟩
        rw [List.nil_append]
        obtain ⟨_, rfl, p6, c6, us6, rfl, -⟩ := id h6
        repeat (first | refine run_S ?_ | refine w_box (fun _ => ?_) | refine w_al (fun _ => ?_))
        refine sl_call rfl rfl rfl rfl rfl rfl (fun _ => fDet_e (w := (P.1 : Int)) (pa := pa) (cc := cca) ha3 (by rw [eS]; decide)) ?_
        rintro v7 U7 D hU7 ⟨rfl, -, rfl⟩
        rw [List.nil_append, eS]
        repeat (first | refine run_S ?_ | refine w_box (fun _ => ?_) | refine w_al (fun _ => ?_))
        refine sl_call rfl rfl rfl rfl rfl rfl (fun _ => fCP_e (w := (P.1 : Int)) (pa := pa) (cc := cca) ha3 (by rw [eS]; decide)) ?_
        rintro v8 U8 D hU8 ⟨rfl, -, rfl⟩
        rw [List.nil_append, eS]
        repeat (first | refine run_S ?_ | refine w_box (fun _ => ?_) | refine w_al (fun _ => ?_))
        refine sl_call rfl rfl rfl rfl rfl rfl (fun _ => z4Modulus_ct (z := (P.1 : Int))) ?_
        rintro v U' D hU ⟨rfl, rfl, rfl⟩
        repeat (first | refine run_S ?_ | refine w_box (fun _ => ?_) | refine w_al (fun _ => ?_))
        rw [hP]
        repeat (first | refine run_S ?_ | refine w_box (fun _ => ?_) | refine w_al (fun _ => ?_))
        refine sl_call rfl rfl rfl rfl rfl rfl (fun _ => z13Valid_ct (r := (R : Int)) (c := (C : Int)) (p := pa) (cc := cca) ha3) ?_
        rintro v U' D hU ⟨rfl, rfl, rfl⟩
        repeat (first | refine run_S ?_ | refine w_box (fun _ => ?_) | refine w_al (fun _ => ?_))
        rw [decide_eq_true hVa]
        repeat (first | refine run_S ?_ | refine w_box (fun _ => ?_) | refine w_al (fun _ => ?_))
        refine sl_call rfl rfl rfl rfl rfl rfl (fun _ => z13Valid_ct (r := (C : Int)) (c := (C2 : Int)) (p := pb) (cc := ccb) hb3) ?_
        rintro v U' D hU ⟨rfl, rfl, rfl⟩
        repeat (first | refine run_S ?_ | refine w_box (fun _ => ?_) | refine w_al (fun _ => ?_))
        rw [decide_eq_true hVb]
        repeat (first | refine run_S ?_ | refine w_box (fun _ => ?_) | refine w_al (fun _ => ?_) | refine sl_gdec rfl rfl (fun h => absurd h (by decide)) (fun _ => ?_) | refine sl_gdec rfl rfl (fun _ => ?_) (fun h => absurd (by decide) h) | rw [hd3] | rw [hd4] | rw [hd1] | rw [hd2] | refine st_dec rfl (fun h => absurd h (by decide)) (fun _ => ?_))
        refine sk_ret [] sym rfl (.cons (.tmp rfl) .nil) uc sb (.inl rfl) ?_
        exact congrArg Value.bool (dec_true rfl)
    · have hd3 : dec ((C : Int) = rb) = false := dec_false hcr
      have eM : errM (P.1 : Int) (R : Int) (C : Int) rb cb (R * C) nb = 4 := by unfold errM; rw [eA, eB, if_neg (by decide), if_neg (by decide), if_neg hcr]
      by_cases hsq : (R : Int) = (C : Int)
      · obtain rfl : R = C := by omega
        have hd4 : dec ((R : Int) = (R : Int)) = true := dec_true rfl
        repeat (first | refine run_S ?_ | refine w_box (fun _ => ?_) | refine w_al (fun _ => ?_))
        refine sl_call rfl rfl rfl rfl rfl rfl (fun _ => fMul_e (w := (P.1 : Int)) (pa := pa) (pb := pb) (cca := cca) (ccb := ccb) ha3 hb3 (by rw [eM]; decide)) ?_
        rintro v1 U3 D hU3 ⟨rfl, -, rfl⟩
        rw [List.nil_append, eM]
        repeat (first | refine run_S ?_ | refine w_box (fun _ => ?_) | refine w_al (fun _ => ?_))
        refine sl_call rfl rfl rfl rfl rfl rfl (fun _ => fEchelon_ct (P := P) (hA.mm uc) hp (by omega) (by omega)) ?_
        rintro v4 U4 D hU4 ⟨r1, R1, p1, _, _, rfl, h4, h4p, rfl, hE1⟩
        rw [List.nil_append]
        obtain ⟨_, rfl, p4, c4, us4, rfl, -⟩ := id h4
        obtain ⟨p5, c5, us5, rfl, -⟩ := id h4p
        repeat (first | refine run_S ?_ | refine w_box (fun _ => ?_) | refine w_al (fun _ => ?_))
        refine sl_call rfl rfl rfl rfl rfl rfl (fun _ => fRank_ct (P := P) (hA.mm uc) hp (by omega) (by omega)) ?_
        rintro v5 U5 D hU5 ⟨r2, R2x, p2, rfl, -, -, rfl⟩
        rw [List.nil_append]
        repeat (first | refine run_S ?_ | refine w_box (fun _ => ?_) | refine w_al (fun _ => ?_))
        refine sl_call rfl rfl rfl rfl rfl rfl (fun _ => fKernel_ct (P := P) (hA.mm uc) hp (by omega) (by omega)) ?_
        rintro v6 U6 D hU6 ⟨s1, K1, q1, _, rfl, h6, rfl, -⟩
        rw [List.nil_append]
        obtain ⟨_, rfl, p6, c6, us6, rfl, -⟩ := id h6
        repeat (first | refine run_S ?_ | refine w_box (fun _ => ?_) | refine w_al (fun _ => ?_))
        refine sl_call rfl rfl rfl rfl rfl rfl (fun _ => fDet_ct (P := P) (hA.mm uc) hp (by omega)) ?_
        rintro v7 U7 D hU7 ⟨rfl, -, rfl⟩
        rw [List.nil_append]
        repeat (first | refine run_S ?_ | refine w_box (fun _ => ?_) | refine w_al (fun _ => ?_))
        refine sl_call rfl rfl rfl rfl rfl rfl (fun _ => fCharPoly_ct (P := P) (hA.mm uc) hp (by omega)) ?_
        rintro v8 U8 D hU8 ⟨_, rfl, h8, rfl⟩
        rw [List.nil_append]
        obtain ⟨p8, c8, us8, rfl, -⟩ := id h8
        repeat (first | refine run_S ?_ | refine w_box (fun _ => ?_) | refine w_al (fun _ => ?_))
        refine sl_call rfl rfl rfl rfl rfl rfl (fun _ => z4Modulus_ct (z := (P.1 : Int))) ?_
        rintro v U' D hU ⟨rfl, rfl, rfl⟩
        repeat (first | refine run_S ?_ | refine w_box (fun _ => ?_) | refine w_al (fun _ => ?_))
        rw [hP]
        repeat (first | refine run_S ?_ | refine w_box (fun _ => ?_) | refine w_al (fun _ => ?_))
        refine sl_call rfl rfl rfl rfl rfl rfl (fun _ => z13Valid_ct (r := (R : Int)) (c := (R : Int)) (p := pa) (cc := cca) ha3) ?_
        rintro v U' D hU ⟨rfl, rfl, rfl⟩
        repeat (first | refine run_S ?_ | refine w_box (fun _ => ?_) | refine w_al (fun _ => ?_))
        rw [decide_eq_true hVa]
        repeat (first | refine run_S ?_ | refine w_box (fun _ => ?_) | refine w_al (fun _ => ?_))
        refine sl_call rfl rfl rfl rfl rfl rfl (fun _ => z13Valid_ct (r := rb) (c := cb) (p := pb) (cc := ccb) hb3) ?_
        rintro v U' D hU ⟨rfl, rfl, rfl⟩
        repeat (first | refine run_S ?_ | refine w_box (fun _ => ?_) | refine w_al (fun _ => ?_))
        rw [decide_eq_true hVb]
        repeat (first | refine run_S ?_ | refine w_box (fun _ => ?_) | refine w_al (fun _ => ?_) | refine sl_gdec rfl rfl (fun h => absurd h (by decide)) (fun _ => ?_) | refine sl_gdec rfl rfl (fun _ => ?_) (fun h => absurd (by decide) h) | rw [hd3] | rw [hd4] | rw [hd1] | rw [hd2] | refine st_dec rfl (fun h => absurd h (by decide)) (fun _ => ?_))
        refine sl_bslice (vs := [zFM]) sym rfl rfl rfl rfl rfl rfl (all_size rfl) rfl rfl rfl rfl rfl rfl (fun bn => ?_)
        refine sl_call rfl rfl rfl rfl rfl rfl (fun _ => none13_ct (vs := [zFM]) ((RowO.mk (e := TF) (s := 3) (b := bn) (n := 1) (vs := [zFM]) rfl (all_size rfl) (by omega)).at sb) (fun v hv => by simpa using hv) (by decide)) ?_
        rintro v U' D hU ⟨rfl, rfl, rfl⟩
        repeat (first | refine run_S ?_ | refine w_box (fun _ => ?_) | refine w_al (fun _ => ?_))
        repeat (first | refine run_S ?_ | refine w_box (fun _ => ?_) | refine w_al (fun _ => ?_) | refine sl_gdec rfl rfl (fun h => absurd h (by decide)) (fun _ => ?_) | refine sl_gdec rfl rfl (fun _ => ?_) (fun h => absurd (by decide) h) | rw [hd3] | rw [hd4] | rw [hd1] | rw [hd2] | refine st_dec rfl (fun h => absurd h (by decide)) (fun _ => ?_))
        exact sk_ret [] sym rfl (.cons (.tmp rfl) .nil) uc sb (.inl rfl) rfl
      · have hd4 : dec ((R : Int) = (C : Int)) = false := dec_false hsq
        have eS : errS (P.1 : Int) (R : Int) (C : Int) (R * C) = 4 := by unfold errS; rw [eA, if_pos rfl, if_neg hsq]
        repeat (first | refine run_S ?_ | refine w_box (fun _ => ?_) | refine w_al (fun _ => ?_))
        refine sl_call rfl rfl rfl rfl rfl rfl (fun _ => fMul_e (w := (P.1 : Int)) (pa := pa) (pb := pb) (cca := cca) (ccb := ccb) ha3 hb3 (by rw [eM]; decide)) ?_
        rintro v1 U3 D hU3 ⟨rfl, -, rfl⟩
        rw [List.nil_append, eM]
        repeat (first | refine run_S ?_ | refine w_box (fun _ => ?_) | refine w_al (fun _ => ?_))
        refine sl_call rfl rfl rfl rfl rfl rfl (fun _ => fEchelon_ct (P := P) (hA.mm uc) hp (by omega) (by omega)) ?_
        rintro v4 U4 D hU4 ⟨r1, R1, p1, _, _, rfl, h4, h4p, rfl, hE1⟩
        rw [List.nil_append]
        obtain ⟨_, rfl, p4, c4, us4, rfl, -⟩ := id h4
        obtain ⟨p5, c5, us5, rfl, -⟩ := id h4p
        repeat (first | refine run_S ?_ | refine w_box (fun _ => ?_) | refine w_al (fun _ => ?_))
        refine sl_call rfl rfl rfl rfl rfl rfl (fun _ => fRank_ct (P := P) (hA.mm uc) hp (by omega) (by omega)) ?_
        rintro v5 U5 D hU5 ⟨r2, R2x, p2, rfl, -, -, rfl⟩
        rw [List.nil_append]
        repeat (first | refine run_S ?_ | refine w_box (fun _ => ?_) | refine w_al (fun _ => ?_))
        refine sl_call rfl rfl rfl rfl rfl rfl (fun _ => fKernel_ct (P := P) (hA.mm uc) hp (by omega) (by omega)) ?_
        rintro v6 U6 D hU6 ⟨s1, K1, q1, _, rfl, h6, rfl, -⟩
        rw [List.nil_append]
        obtain ⟨_, rfl, p6, c6, us6, rfl, -⟩ := id h6
        repeat (first | refine run_S ?_ | refine w_box (fun _ => ?_) | refine w_al (fun _ => ?_))
        refine sl_call rfl rfl rfl rfl rfl rfl (fun _ => fDet_e (w := (P.1 : Int)) (pa := pa) (cc := cca) ha3 (by rw [eS]; decide)) ?_
        rintro v7 U7 D hU7 ⟨rfl, -, rfl⟩
        rw [List.nil_append, eS]
        repeat (first | refine run_S ?_ | refine w_box (fun _ => ?_) | refine w_al (fun _ => ?_))
        refine sl_call rfl rfl rfl rfl rfl rfl (fun _ => fCP_e (w := (P.1 : Int)) (pa := pa) (cc := cca) ha3 (by rw [eS]; decide)) ?_
        rintro v8 U8 D hU8 ⟨rfl, -, rfl⟩
        rw [List.nil_append, eS]
        repeat (first | refine run_S ?_ | refine w_box (fun _ => ?_) | refine w_al (fun _ => ?_))
        refine sl_call rfl rfl rfl rfl rfl rfl (fun _ => z4Modulus_ct (z := (P.1 : Int))) ?_
        rintro v U' D hU ⟨rfl, rfl, rfl⟩
        repeat (first | refine run_S ?_ | refine w_box (fun _ => ?_) | refine w_al (fun _ => ?_))
        rw [hP]
        repeat (first | refine run_S ?_ | refine w_box (fun _ => ?_) | refine w_al (fun _ => ?_))
        refine sl_call rfl rfl rfl rfl rfl rfl (fun _ => z13Valid_ct (r := (R : Int)) (c := (C : Int)) (p := pa) (cc := cca) ha3) ?_
        rintro v U' D hU ⟨rfl, rfl, rfl⟩
        repeat (first | refine run_S ?_ | refine w_box (fun _ => ?_) | refine w_al (fun _ => ?_))
        rw [decide_eq_true hVa]
        repeat (first | refine run_S ?_ | refine w_box (fun _ => ?_) | refine w_al (fun _ => ?_))
        refine sl_call rfl rfl rfl rfl rfl rfl (fun _ => z13Valid_ct (r := rb) (c := cb) (p := pb) (cc := ccb) hb3) ?_
        rintro v U' D hU ⟨rfl, rfl, rfl⟩
        repeat (first | refine run_S ?_ | refine w_box (fun _ => ?_) | refine w_al (fun _ => ?_))
        rw [decide_eq_true hVb]
        repeat (first | refine run_S ?_ | refine w_box (fun _ => ?_) | refine w_al (fun _ => ?_) | refine sl_gdec rfl rfl (fun h => absurd h (by decide)) (fun _ => ?_) | refine sl_gdec rfl rfl (fun _ => ?_) (fun h => absurd (by decide) h) | rw [hd3] | rw [hd4] | rw [hd1] | rw [hd2] | refine st_dec rfl (fun h => absurd h (by decide)) (fun _ => ?_))
        refine sl_bslice (vs := [zFM]) sym rfl rfl rfl rfl rfl rfl (all_size rfl) rfl rfl rfl rfl rfl rfl (fun bn => ?_)
        refine sl_call rfl rfl rfl rfl rfl rfl (fun _ => none13_ct (vs := [zFM]) ((RowO.mk (e := TF) (s := 3) (b := bn) (n := 1) (vs := [zFM]) rfl (all_size rfl) (by omega)).at sb) (fun v hv => by simpa using hv) (by decide)) ?_
        rintro v U' D hU ⟨rfl, rfl, rfl⟩
        repeat (first | refine run_S ?_ | refine w_box (fun _ => ?_) | refine w_al (fun _ => ?_))
        repeat (first | refine run_S ?_ | refine w_box (fun _ => ?_) | refine w_al (fun _ => ?_) | refine sl_gdec rfl rfl (fun h => absurd h (by decide)) (fun _ => ?_) | refine sl_gdec rfl rfl (fun _ => ?_) (fun h => absurd (by decide) h) | rw [hd3] | rw [hd4] | rw [hd1] | rw [hd2] | refine st_dec rfl (fun h => absurd h (by decide)) (fun _ => ?_))
        refine sk_ret [] sym rfl (.cons (.tmp rfl) .nil) uc sb (.inl rfl) ?_
        exact congrArg Value.bool (dec_true rfl)
  · have eB : errF (P.1 : Int) rb cb nb = 4 := by rw [errF_p hP, if_neg hVb]
    have hd3 := hd1
    have eM : errM (P.1 : Int) (R : Int) (C : Int) rb cb (R * C) nb = 4 := by unfold errM; rw [eA, eB, if_neg (by decide), if_pos (by decide)]
    by_cases hsq : (R : Int) = (C : Int)
    · obtain rfl : R = C := by omega
      have hd4 : dec ((R : Int) = (R : Int)) = true := dec_true rfl
      repeat (first | refine run_S ?_ | refine w_box (fun _ => ?_) | refine w_al (fun _ => ?_))
      refine sl_call rfl rfl rfl rfl rfl rfl (fun _ => fMul_e (w := (P.1 : Int)) (pa := pa) (pb := pb) (cca := cca) (ccb := ccb) ha3 hb3 (by rw [eM]; decide)) ?_
      rintro v1 U3 D hU3 ⟨rfl, -, rfl⟩
      rw [List.nil_append, eM]
      repeat (first | refine run_S ?_ | refine w_box (fun _ => ?_) | refine w_al (fun _ => ?_))
      refine sl_call rfl rfl rfl rfl rfl rfl (fun _ => fEchelon_ct (P := P) (hA.mm uc) hp (by omega) (by omega)) ?_
      rintro v4 U4 D hU4 ⟨r1, R1, p1, _, _, rfl, h4, h4p, rfl, hE1⟩
      rw [List.nil_append]
      obtain ⟨_, rfl, p4, c4, us4, rfl, -⟩ := id h4
      obtain ⟨p5, c5, us5, rfl, -⟩ := id h4p
      repeat (first | refine run_S ?_ | refine w_box (fun _ => ?_) | refine w_al (fun _ => ?_))
      refine sl_call rfl rfl rfl rfl rfl rfl (fun _ => fRank_ct (P := P) (hA.mm uc) hp (by omega) (by omega)) ?_
      rintro v5 U5 D hU5 ⟨r2, R2x, p2, rfl, -, -, rfl⟩
      rw [List.nil_append]
      repeat (first | refine run_S ?_ | refine w_box (fun _ => ?_) | refine w_al (fun _ => ?_))
      refine sl_call rfl rfl rfl rfl rfl rfl (fun _ => fKernel_ct (P := P) (hA.mm uc) hp (by omega) (by omega)) ?_
      rintro v6 U6 D hU6 ⟨s1, K1, q1, _, rfl, h6, rfl, -⟩
      rw [List.nil_append]
      obtain ⟨_, rfl, p6, c6, us6, rfl, -⟩ := id h6
      repeat (first | refine run_S ?_ | refine w_box (fun _ => ?_) | refine w_al (fun _ => ?_))
      refine sl_call rfl rfl rfl rfl rfl rfl (fun _ => fDet_ct (P := P) (hA.mm uc) hp (by omega)) ?_
      rintro v7 U7 D hU7 ⟨rfl, -, rfl⟩
      rw [List.nil_append]
      repeat (first | refine run_S ?_ | refine w_box (fun _ => ?_) | refine w_al (fun _ => ?_))
      refine sl_call rfl rfl rfl rfl rfl rfl (fun _ => fCharPoly_ct (P := P) (hA.mm uc) hp (by omega)) ?_
      rintro v8 U8 D hU8 ⟨_, rfl, h8, rfl⟩
      rw [List.nil_append]
      obtain ⟨p8, c8, us8, rfl, -⟩ := id h8
      repeat (first | refine run_S ?_ | refine w_box (fun _ => ?_) | refine w_al (fun _ => ?_))
      refine sl_call rfl rfl rfl rfl rfl rfl (fun _ => z4Modulus_ct (z := (P.1 : Int))) ?_
      rintro v U' D hU ⟨rfl, rfl, rfl⟩
      repeat (first | refine run_S ?_ | refine w_box (fun _ => ?_) | refine w_al (fun _ => ?_))
      rw [hP]
      repeat (first | refine run_S ?_ | refine w_box (fun _ => ?_) | refine w_al (fun _ => ?_))
      refine sl_call rfl rfl rfl rfl rfl rfl (fun _ => z13Valid_ct (r := (R : Int)) (c := (R : Int)) (p := pa) (cc := cca) ha3) ?_
      rintro v U' D hU ⟨rfl, rfl, rfl⟩
      repeat (first | refine run_S ?_ | refine w_box (fun _ => ?_) | refine w_al (fun _ => ?_))
      rw [decide_eq_true hVa]
      repeat (first | refine run_S ?_ | refine w_box (fun _ => ?_) | refine w_al (fun _ => ?_))
      refine sl_call rfl rfl rfl rfl rfl rfl (fun _ => z13Valid_ct (r := rb) (c := cb) (p := pb) (cc := ccb) hb3) ?_
      rintro v U' D hU ⟨rfl, rfl, rfl⟩
      repeat (first | refine run_S ?_ | refine w_box (fun _ => ?_) | refine w_al (fun _ => ?_))
      rw [decide_eq_false hVb]
      repeat (first | refine run_S ?_ | refine w_box (fun _ => ?_) | refine w_al (fun _ => ?_) | refine sl_gdec rfl rfl (fun h => absurd h (by decide)) (fun _ => ?_) | refine sl_gdec rfl rfl (fun _ => ?_) (fun h => absurd (by decide) h) | rw [hd3] | rw [hd4] | rw [hd1] | rw [hd2] | refine st_dec rfl (fun h => absurd h (by decide)) (fun _ => ?_))
      refine sl_bslice (vs := [zFM]) sym rfl rfl rfl rfl rfl rfl (all_size rfl) rfl rfl rfl rfl rfl rfl (fun bn => ?_)
      refine sl_call rfl rfl rfl rfl rfl rfl (fun _ => none13_ct (vs := [zFM]) ((RowO.mk (e := TF) (s := 3) (b := bn) (n := 1) (vs := [zFM]) rfl (all_size rfl) (by omega)).at sb) (fun v hv => by simpa using hv) (by decide)) ?_
      rintro v U' D hU ⟨rfl, rfl, rfl⟩
      repeat (first | refine run_S ?_ | refine w_box (fun _ => ?_) | refine w_al (fun _ => ?_))
      repeat (first | refine run_S ?_ | refine w_box (fun _ => ?_) | refine w_al (fun _ => ?_) | refine sl_gdec rfl rfl (fun h => absurd h (by decide)) (fun _ => ?_) | refine sl_gdec rfl rfl (fun _ => ?_) (fun h => absurd (by decide) h) | rw [hd3] | rw [hd4] | rw [hd1] | rw [hd2] | refine st_dec rfl (fun h => absurd h (by decide)) (fun _ => ?_))
      exact sk_ret [] sym rfl (.cons (.tmp rfl) .nil) uc sb (.inl rfl) rfl
    · have hd4 : dec ((R : Int) = (C : Int)) = false := dec_false hsq
      have eS : errS (P.1 : Int) (R : Int) (C : Int) (R * C) = 4 := by unfold errS; rw [eA, if_pos rfl, if_neg hsq]
      repeat (first | refine run_S ?_ | refine w_box (fun _ => ?_) | refine w_al (fun _ => ?_))
      refine sl_call rfl rfl rfl rfl rfl rfl (fun _ => fMul_e (w := (P.1 : Int)) (pa := pa) (pb := pb) (cca := cca) (ccb := ccb) ha3 hb3 (by rw [eM]; decide)) ?_
      rintro v1 U3 D hU3 ⟨rfl, -, rfl⟩
      rw [List.nil_append, eM]
      repeat (first | refine run_S ?_ | refine w_box (fun _ => ?_) | refine w_al (fun _ => ?_))
      refine sl_call rfl rfl rfl rfl rfl rfl (fun _ => fEchelon_ct (P := P) (hA.mm uc) hp (by omega) (by omega)) ?_
      rintro v4 U4 D hU4 ⟨r1, R1, p1, _, _, rfl, h4, h4p, rfl, hE1⟩
      rw [List.nil_append]
      obtain ⟨_, rfl, p4, c4, us4, rfl, -⟩ := id h4
      obtain ⟨p5, c5, us5, rfl, -⟩ := id h4p
      repeat (first | refine run_S ?_ | refine w_box (fun _ => ?_) | refine w_al (fun _ => ?_))
      refine sl_call rfl rfl rfl rfl rfl rfl (fun _ => fRank_ct (P := P) (hA.mm uc) hp (by omega) (by omega)) ?_
      rintro v5 U5 D hU5 ⟨r2, R2x, p2, rfl, -, -, rfl⟩
      rw [List.nil_append]
      repeat (first | refine run_S ?_ | refine w_box (fun _ => ?_) | refine w_al (fun _ => ?_))
      refine sl_call rfl rfl rfl rfl rfl rfl (fun _ => fKernel_ct (P := P) (hA.mm uc) hp (by omega) (by omega)) ?_
      rintro v6 U6 D hU6 ⟨s1, K1, q1, _, rfl, h6, rfl, -⟩
      rw [List.nil_append]
      obtain ⟨_, rfl, p6, c6, us6, rfl, -⟩ := id h6
      repeat (first | refine run_S ?_ | refine w_box (fun _ => ?_) | refine w_al (fun _ => ?_))
      refine sl_call rfl rfl rfl rfl rfl rfl (fun _ => fDet_e (w := (P.1 : Int)) (pa := pa) (cc := cca) ha3 (by rw [eS]; decide)) ?_
      rintro v7 U7 D hU7 ⟨rfl, -, rfl⟩
      rw [List.nil_append, eS]
      repeat (first | refine run_S ?_ | refine w_box (fun _ => ?_) | refine w_al (fun _ => ?_))
      refine sl_call rfl rfl rfl rfl rfl rfl (fun _ => fCP_e (w := (P.1 : Int)) (pa := pa) (cc := cca) ha3 (by rw [eS]; decide)) ?_
      rintro v8 U8 D hU8 ⟨rfl, -, rfl⟩
      rw [List.nil_append, eS]
      repeat (first | refine run_S ?_ | refine w_box (fun _ => ?_) | refine w_al (fun _ => ?_))
      refine sl_call rfl rfl rfl rfl rfl rfl (fun _ => z4Modulus_ct (z := (P.1 : Int))) ?_
      rintro v U' D hU ⟨rfl, rfl, rfl⟩
      repeat (first | refine run_S ?_ | refine w_box (fun _ => ?_) | refine w_al (fun _ => ?_))
      rw [hP]
      repeat (first | refine run_S ?_ | refine w_box (fun _ => ?_) | refine w_al (fun _ => ?_))
      refine sl_call rfl rfl rfl rfl rfl rfl (fun _ => z13Valid_ct (r := (R : Int)) (c := (C : Int)) (p := pa) (cc := cca) ha3) ?_
      rintro v U' D hU ⟨rfl, rfl, rfl⟩
      repeat (first | refine run_S ?_ | refine w_box (fun _ => ?_) | refine w_al (fun _ => ?_))
      rw [decide_eq_true hVa]
      repeat (first | refine run_S ?_ | refine w_box (fun _ => ?_) | refine w_al (fun _ => ?_))
      refine sl_call rfl rfl rfl rfl rfl rfl (fun _ => z13Valid_ct (r := rb) (c := cb) (p := pb) (cc := ccb) hb3) ?_
      rintro v U' D hU ⟨rfl, rfl, rfl⟩
      repeat (first | refine run_S ?_ | refine w_box (fun _ => ?_) | refine w_al (fun _ => ?_))
      rw [decide_eq_false hVb]
      repeat (first | refine run_S ?_ | refine w_box (fun _ => ?_) | refine w_al (fun _ => ?_) | refine sl_gdec rfl rfl (fun h => absurd h (by decide)) (fun _ => ?_) | refine sl_gdec rfl rfl (fun _ => ?_) (fun h => absurd (by decide) h) | rw [hd3] | rw [hd4] | rw [hd1] | rw [hd2] | refine st_dec rfl (fun h => absurd h (by decide)) (fun _ => ?_))
      refine sl_bslice (vs := [zFM]) sym rfl rfl rfl rfl rfl rfl (all_size rfl) rfl rfl rfl rfl rfl rfl (fun bn => ?_)
      refine sl_call rfl rfl rfl rfl rfl rfl (fun _ => none13_ct (vs := [zFM]) ((RowO.mk (e := TF) (s := 3) (b := bn) (n := 1) (vs := [zFM]) rfl (all_size rfl) (by omega)).at sb) (fun v hv => by simpa using hv) (by decide)) ?_
      rintro v U' D hU ⟨rfl, rfl, rfl⟩
      repeat (first | refine run_S ?_ | refine w_box (fun _ => ?_) | refine w_al (fun _ => ?_))
      repeat (first | refine run_S ?_ | refine w_box (fun _ => ?_) | refine w_al (fun _ => ?_) | refine sl_gdec rfl rfl (fun h => absurd h (by decide)) (fun _ => ?_) | refine sl_gdec rfl rfl (fun _ => ?_) (fun h => absurd (by decide) h) | rw [hd3] | rw [hd4] | rw [hd1] | rw [hd2] | refine st_dec rfl (fun h => absurd h (by decide)) (fun _ => ?_))
      refine sk_ret [] sym rfl (.cons (.tmp rfl) .nil) uc sb (.inl rfl) ?_
      exact congrArg Value.bool (dec_true rfl)
end Go.Proofs.Ytpigpikhjlmdoaa
