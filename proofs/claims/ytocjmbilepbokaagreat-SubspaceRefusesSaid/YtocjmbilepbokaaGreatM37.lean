/- Texts of this seat's own, merged: each begins with its own remark. -/
import Derived.Test.YtocjmbilepbokaaGreatB92
import Derived.Test.YtocjmbilepbokaaGreatM34
import Derived.Test.YtocjmbilepbokaaGreatM36
import Derived.Test.YtocjmbilepbokaaGreatM23
/- Walks of the reference of layer 9: kernels. -/
namespace Go.Proofs.YtocjmbilepbokaaGreat
open Go.Hp
variable {G : World} {U U' : UH} {M M' : MH}

theorem Gs.tail {R : MH → Option Addr → Nat → Nat → List Value → Prop} {c : Nat} {svs : List Value} {D : MH} {F : List MH} {A : Nat → Nat → Rat} (h : Gs R c U svs (D :: F) A) : Gs R c U svs.tail F (fun k => A (k + 1)) := by
  refine ⟨by rw [List.length_tail, h.1]; rfl, fun i v E h1 h2 => ?_⟩
  rw [List.getElem?_tail] at h1
  exact h.2 (i + 1) v E h1 h2
end Go.Proofs.YtocjmbilepbokaaGreat

/- Walks of matrix: row times matrix, products. -/
namespace Go.Proofs.YtocjmbilepbokaaGreat
open Go.Hp
variable {G : World} {U U' : UH} {M M' : MH}

theorem mtimes_co {r c b : Nat} {vx vg : Value} {f : Nat → Rat} {A : Nat → Nat → Rat} (hx : Ls (Wq b) 4 r U M vx f) (hg : Lg r c U M vg A) (sA : ∀ i j, i < r → j < c → Szq (A i j) b) (hb1 : 1 ≤ b) (hB : 1 + r * (2 * b + 2) + b ≤ 10000000000) (hr : r ≤ 1000000) (hc : c ≤ 1000000) :
    Ct Tryz.prog 125 [vx, vg, .int .i64 (c : Int)] G U M fun v U' D => ∃ p c' vs, v = .slice p c c' ∧ c ≤ c' ∧ RowW TR 4 D p c vs ∧ El Vq U' vs (fun j => La.sm r fun i => f i * A i j) ∧ ULe U U' := by
  have sf : ∀ i, i < r → Szq (f i) b := fun i hi => hx.sz hb1 hi
  obtain ⟨px, cx, xs, rfl, -, rx, ex⟩ := hx
  obtain ⟨pg, cg, gs, rfl, -, rg, eg⟩ := hg
  refine ct_of_st Tryz.func125 rfl rfl rfl rfl ?_
  repeat (first | refine run_S ?_ | refine w_box (fun _ => ?_) | refine w_al (fun _ => ?_))
  refine sl_call rfl rfl rfl rfl rfl rfl (fun _ => mzeros_ct (n := c) (by omega)) ?_
  rintro v1 U1 D1 hU1 ⟨⟨po, co, os, rfl, hro, eo⟩, -⟩
  have hco := hro.len.2.1
  try refine run_s ?_
  refine st_loop (fun z E U' M' => ∃ (i : Nat) (vs : List Value) (D : MH), i ≤ r ∧ RowW TR 4 D po c vs ∧ El Vq U' vs (fun j => La.sm i fun k => f k * A k j) ∧ E = [(13, .int .i64 (i : Int)), (12, .int .i64 (r : Int)), (7, .slice po c co), (0, .slice px r cx), (1, .slice pg r cg)] ∧ ULe U1 U' ∧ M' = D ++ M ∧ z = r - i) (n0 := r)
    (E0 := [(13, .int .i64 ((0 : Nat) : Int)), (12, .int .i64 (r : Int)), (7, .slice po c co), (0, .slice px r cx), (1, .slice pg r cg)]) ⟨rfl, rfl, rfl, rfl, rfl, trivial⟩ ⟨0, os, D1, by omega, hro.w, eo, rfl, uc, rfl, rfl⟩ ?_
  clear hro eo
  rintro z E U2 M' ⟨i, vs, D, hi, hrow, hel, rfl, hU2, rfl, rfl⟩
  try refine run_s ?_
  refine st_dec rfl (fun h => ?_) (fun h => ?_)
  · have hir : i < r := by omega
    obtain ⟨v1, hv1⟩ := rx.at hir
    obtain ⟨x1, rfl, hx1, hl1⟩ := ex _ _ hv1
    obtain ⟨v2, hv2⟩ := rg.at hir
    obtain ⟨q2, c2, us, rfl, hc2, ru, eu⟩ := eg _ _ hv2
    have hmul : i * (2 * b + 2) + (2 * b + 2) ≤ r * (2 * b + 2) := by
      have := Nat.mul_le_mul_right (2 * b + 2) (show i + 1 ≤ r by omega)
      rwa [Nat.add_mul, Nat.one_mul] at this
    have sS : ∀ j, j < c → Szq (La.sm i fun k => f k * A k j) (1 + i * (2 * b + 2)) := fun j hj => szq_sm fun k hk => ((sf k (by omega)).mul (sA k j (by omega) hj)).mono (by omega)
    have rx2 := rx.up (U' := U2) (M' := D ++ M) uc sb
    have rg2 := rg.up (U' := U2) (M' := D ++ M) uc sb
    try refine run_s ?_
    refine sl_y (yl_index sym rfl rfl rfl rfl rfl rfl (rx2.lt hv1) (rx2.get _ _ hv1).1) rfl rfl rfl rfl ?_; refine sl_y (yl_loadRs sym rfl rfl rfl rfl rfl rx2 hv1) rfl rfl rfl rfl ?_
    repeat (first | refine run_S ?_ | refine w_box (fun _ => ?_) | refine w_al (fun _ => ?_))
    refine sl_call rfl rfl rfl rfl rfl rfl (fun _ => nonzero_ct (hx1.up uc sb) (by omega)) ?_
    rintro v U' D hU ⟨rfl, rfl, rfl⟩
    repeat (first | refine run_S ?_ | refine w_box (fun _ => ?_) | refine w_al (fun _ => ?_))
    by_cases hf : f i ≠ 0
    · rw [decide_eq_true hf]
      try refine run_s ?_
      refine st_drawM [9] [0, 1, 2, 3, 4, 5, 6, 7, 8, 9] sym (by kernel_rfl) ?_
      try refine run_s ?_
      refine sl_y (yl_index sym rfl rfl rfl rfl rfl rfl (rg2.lt hv2) (rg2.get _ _ hv2).1) rfl rfl rfl rfl ?_; refine sl_y (yl_loadR1 sym rfl rfl rfl rfl rg2 hv2 rfl) rfl rfl rfl rfl ?_
      try refine run_s ?_
      refine sl_y (yl_index sym rfl rfl rfl rfl rfl rfl (rx2.lt hv1) (rx2.get _ _ hv1).1) rfl rfl rfl rfl ?_; refine sl_y (yl_loadRs sym rfl rfl rfl rfl rfl rx2 hv1) rfl rfl rfl rfl ?_
      try refine run_s ?_
      generalize hB2 : r * (2 * b + 2) = B2 at hB hmul
      refine sl_callC rfl rfl rfl rfl rfl rfl ((combineW_cx (b := 1 + B2 + b) (fr := 0) (X := M) hrow hel (vb := .slice q2 c c2) (g := A i) ⟨q2, c2, _, rfl, hc2, ru.up uc (List.Sublist.refl _), eu.up kept_q uc⟩ (hx1.up uc (List.nil_sublist _)) ⟨Nat.le_trans hl1.1 (by omega), Nat.le_trans hl1.2 (by omega)⟩ (Nat.zero_le c) (fun j hj => (sS j hj).mono (by omega)) (fun j hj => (sA i j hir hj).mono (by omega)) ((sf i hir).mono (by omega)) (by omega) (by omega))) ?_
      rintro v4 U4 M4 hU4 ⟨-, D5, vs5, rfl, hr5, e5⟩
      try refine run_s ?_
      exact sk_again (E' := [(13, .int .i64 ((i : Int) + 1)), (12, .int .i64 (r : Int)), (7, .slice po c co), (0, .slice px r cx), (1, .slice pg r cg)]) (m := r - (i + 1)) ⟨rfl, rfl, rfl, rfl, rfl, trivial⟩ (by omega)
        ⟨i + 1, vs5, D5, by omega, hr5, e5.congr hr5.len fun j _ => by rw [if_pos (Nat.zero_le j)]; rfl, rfl, uc, rfl, rfl⟩
    · rw [decide_eq_false hf]
      have hf0 : f i = 0 := Classical.not_not.1 hf
      try refine run_s ?_
      exact sk_again (E' := [(13, .int .i64 ((i : Int) + 1)), (12, .int .i64 (r : Int)), (7, .slice po c co), (0, .slice px r cx), (1, .slice pg r cg)]) (m := r - (i + 1)) ⟨rfl, rfl, rfl, rfl, rfl, trivial⟩ (by omega)
        ⟨i + 1, vs, D, by omega, hrow, hel.congr hrow.len fun j _ => by
          show _ = (La.sm i fun k => f k * A k j) + f i * A i j
          rw [hf0, Rat.zero_mul, Rat.add_zero], rfl, uc, rfl, rfl⟩
  · have e : i = r := by omega
    subst e
    try refine run_s ?_
    exact sk_ret D sym rfl (.cons (.tmp rfl) .nil) uc sb (.inl rfl) ⟨po, co, vs, rfl, hco, hrow, hel, uc⟩

theorem mtimes_ct {r c b : Nat} {vx vg : Value} {f : Nat → Rat} {A : Nat → Nat → Rat} (hx : Ls (Wq b) 4 r U M vx f) (hg : Lg r c U M vg A) (sA : ∀ i j, i < r → j < c → Szq (A i j) b) (hb1 : 1 ≤ b) (hB : 1 + r * (2 * b + 2) + b ≤ 10000000000) (hr : r ≤ 1000000) (hc : c ≤ 1000000) :
    Ct Tryz.prog 125 [vx, vg, .int .i64 (c : Int)] G U M fun v U' D => Ls Vq 4 c U' [] v (fun j => La.sm r fun i => f i * A i j) ∧ D = [] :=
  (mtimes_co hx hg sA hb1 hB hr hc).settle.mono fun _ _ _ _ ⟨h1, _, _, ⟨p, c', vs, h2, h3, h4, h5, _⟩, _, h6, h7⟩ => ⟨⟨p, c', vs, h2, h3, h4.sett h7, h5.up kept_q h6⟩, h1⟩

theorem mMul_co {r k c b : Nat} {va vb : Value} {A B : Nat → Nat → Rat} (ha : Vm (Wq b) r k U va A) (hv : Vm (Wq b) k c U vb B) (hb1 : 1 ≤ b) (hB : 1 + k * (2 * b + 2) + b ≤ 10000000000) (hr : r ≤ 1000) (hk : k ≤ 1000) (hc : c ≤ 1000) :
    Ct Tryz.prog 93 [va, vb] G U M fun v U' D => ∃ vC, v = .tuple #[vC, .int .i64 0] ∧ Vmo r c U' D vC (La.mm k A B) ∧ ULe U U' := by
  have h1 : r * k ≤ 1000 * 1000 := Nat.mul_le_mul hr hk
  have h2 : k * c ≤ 1000 * 1000 := Nat.mul_le_mul hk hc
  have h3 : r * c ≤ 1000 * 1000 := Nat.mul_le_mul hr hc
  have sA : ∀ i j, i < r → j < k → Szq (A i j) b := fun i j hi hj => ha.sz hb1 hi hj
  have sB : ∀ i j, i < k → j < c → Szq (B i j) b := fun i j hi hj => hv.sz hb1 hi hj
  have ha2 := ha
  have hv2 := hv
  obtain ⟨_, rfl, pa, cca, asa, rfl, -⟩ := ha
  obtain ⟨_, rfl, pb, ccb, bs, rfl, -⟩ := hv
  refine ct_of_st Tryz.func93 rfl rfl rfl rfl ?_
  repeat (first | refine run_S ?_ | refine w_box (fun _ => ?_) | refine w_al (fun _ => ?_))
  rename_i b2 b3 b4
  refine sl_call rfl rfl rfl rfl rfl rfl (fun _ => mValid_ct (r := (r : Int)) (c := (k : Int)) (n := r * k) (p := pa) (cc := cca) (by omega)) ?_
  rintro v U' D hU ⟨rfl, rfl, rfl⟩
  repeat (first | refine run_S ?_ | refine w_box (fun _ => ?_) | refine w_al (fun _ => ?_))
  rw [decide_eq_true (vld_of (by omega) (by omega))]
  repeat (first | refine run_S ?_ | refine w_box (fun _ => ?_) | refine w_al (fun _ => ?_))
  refine sl_call rfl rfl rfl rfl rfl rfl (fun _ => mValid_ct (r := (k : Int)) (c := (c : Int)) (n := k * c) (p := pb) (cc := ccb) (by omega)) ?_
  rintro v U' D hU ⟨rfl, rfl, rfl⟩
  repeat (first | refine run_S ?_ | refine w_box (fun _ => ?_) | refine w_al (fun _ => ?_))
  rw [decide_eq_true (vld_of (by omega) (by omega))]
  repeat (first | refine run_S ?_ | refine w_box (fun _ => ?_) | refine w_al (fun _ => ?_))
  refine st_ne rfl (fun h => absurd rfl h) (fun _ => ?_)
  repeat (first | refine run_S ?_ | refine w_box (fun _ => ?_) | refine w_al (fun _ => ?_))
  refine st_draw [0, 2, 1, 3, 4, 5] sym (by kernel_rfl) ?_
  try refine run_s ?_
  refine sl_call rfl rfl rfl rfl rfl rfl (fun _ => mload_co (kept_m kept_w _ _ _ _ uc ha2) (by omega) (by omega) (by omega) (by omega)) ?_
  rintro v1 U1 D1 hU1 ⟨⟨Do, F, px, cx, svs, rfl, rfl, hro, hgs⟩, -⟩
  try refine run_s ?_
  refine sl_call rfl rfl rfl rfl rfl rfl (fun _ => mload_co (kept_m kept_w _ _ _ _ uc hv2) (by omega) (by omega) (by omega) (by omega)) ?_
  rintro v2 U2 D2 hU2 ⟨hgy, -⟩
  have hy0 := hgy
  obtain ⟨Dy, Fy, py, cy, yvs, rfl, rfl, -, -⟩ := hy0
  try refine run_s ?_
  refine st_perm (M' := (F.flatten ++ (Dy ++ Fy.flatten)) ++ ((b4, .var (.agg #[.int .i64 0, .int .i64 0, .slice none 0 0]), TM) :: (b3, .var (.agg #[.int .i64 (k : Int), .int .i64 (c : Int), .slice pb (k * c) ccb]), TM) :: (b2, .var (.agg #[.int .i64 (r : Int), .int .i64 (k : Int), .slice pa (r * k) cca]), TM) :: (Do ++ M))) pm ?_
  refine st_settleAll fun U3 hU3 hs3 => ?_
  have eX := hgs.sett (U0 := U2) (U' := U3) uc hs3.left
  have hyg : Lg k c U3 [] (.slice py k cy) B := Lg.of_s (hgy.sett hU3 hs3.right)
  have hpx := hro.len
  refine st_loop (fun z E U' M' => ∃ (i : Nat) (svs : List Value) (Do : MH), i ≤ r ∧ RowO TRs 1 Do px r cx svs ∧ (∀ j v, j < i → svs[j]? = some v → Vr c U' v (La.mm k A B j)) ∧ (∀ j v, i ≤ j → svs[j]? = some v → Vr k U' v (A j)) ∧ E = [(31, .int .i64 (i : Int)), (30, .int .i64 (r : Int)), (6, .slice px r cx), (7, .slice py k cy), (3, .pointer (some ⟨b3, 0, none⟩)), (4, .pointer (some ⟨b4, 0, none⟩))] ∧ ULe U3 U' ∧
      M' = (b4, .var (.agg #[.int .i64 0, .int .i64 0, .slice none 0 0]), TM) :: (b3, .var (.agg #[.int .i64 (k : Int), .int .i64 (c : Int), .slice pb (k * c) ccb]), TM) :: (b2, .var (.agg #[.int .i64 (r : Int), .int .i64 (k : Int), .slice pa (r * k) cca]), TM) :: (Do ++ M) ∧ z = r - i) (n0 := r)
    (E0 := [(31, .int .i64 ((0 : Nat) : Int)), (30, .int .i64 (r : Int)), (6, .slice px r cx), (7, .slice py k cy), (3, .pointer (some ⟨b3, 0, none⟩)), (4, .pointer (some ⟨b4, 0, none⟩))]) ⟨rfl, rfl, rfl, rfl, rfl, rfl, trivial⟩ ⟨0, svs, Do, by omega, hro, (fun j v h => absurd h (Nat.not_lt_zero j)), (fun j v _ hv => eX j v hv), rfl, uc, rfl, rfl⟩ ?_
  clear hro hgs eX hgy
  rintro z E U4 M' ⟨i, svs, Do, hi, hro, hN, hO, rfl, hU4, rfl, rfl⟩
  have hsl := hro.len.1
  try refine run_s ?_
  refine st_dec rfl (fun h => ?_) (fun h => ?_)
  · have hir : i < r := by omega
    have rA := hro.at (U := U4) (M := (b4, .var (.agg #[.int .i64 0, .int .i64 0, .slice none 0 0]), TM) :: (b3, .var (.agg #[.int .i64 (k : Int), .int .i64 (c : Int), .slice pb (k * c) ccb]), TM) :: (b2, .var (.agg #[.int .i64 (r : Int), .int .i64 (k : Int), .slice pa (r * k) cca]), TM) :: (Do ++ M)) sb
    obtain ⟨v5, hv5⟩ := rA.at hir
    have h5 := hO i v5 (Nat.le_refl i) hv5
    obtain ⟨p5, c5, us, rfl, -⟩ := id h5
    try refine run_s ?_
    refine st_drawM [9, 10, 11] [0, 1, 2, 3, 4, 5, 6, 7, 8, 9, 10, 11] sym (by kernel_rfl) ?_
    try refine run_s ?_
    refine sl_y (yl_index sym rfl rfl rfl rfl rfl rfl (rA.lt hv5) (rA.get _ _ hv5).1) rfl rfl rfl rfl ?_; refine sl_y (yl_loadR1 sym rfl rfl rfl rfl rA hv5 rfl) rfl rfl rfl rfl ?_
    try refine run_s ?_
    refine sl_call rfl rfl rfl rfl rfl rfl (fun _ => mtimes_ct (b := b) ((h5.ls uc).toW fun j hj => sA i j hir hj) (hyg.up uc (List.nil_sublist _)) sB hb1 hB (by omega) (by omega)) ?_
    rintro v6 U6 D hU6 ⟨h6, rfl⟩
    rw [List.nil_append]
    obtain ⟨p6, c6, ws, rfl, -⟩ := id h6
    try refine run_s ?_
    refine w_addr (j := i) hir (hro.some (by omega)) ?_
    refine w_storeR (X := (b4, .var (.agg #[.int .i64 0, .int .i64 0, .slice none 0 0]), TM) :: (b3, .var (.agg #[.int .i64 (k : Int), .int .i64 (c : Int), .slice pb (k * c) ccb]), TM) :: (b2, .var (.agg #[.int .i64 (r : Int), .int .i64 (k : Int), .slice pa (r * k) cca]), TM) :: M) hro pm hir (fun D7 hr7 => ?_)
    refine sl_perm (M' := (b4, .var (.agg #[.int .i64 0, .int .i64 0, .slice none 0 0]), TM) :: (b3, .var (.agg #[.int .i64 (k : Int), .int .i64 (c : Int), .slice pb (k * c) ccb]), TM) :: (b2, .var (.agg #[.int .i64 (r : Int), .int .i64 (k : Int), .slice pa (r * k) cca]), TM) :: (D7 ++ M)) ?_ pm
    try refine run_s ?_
    refine sk_again (E' := [(31, .int .i64 ((i : Int) + 1)), (30, .int .i64 (r : Int)), (6, .slice px r cx), (7, .slice py k cy), (3, .pointer (some ⟨b3, 0, none⟩)), (4, .pointer (some ⟨b4, 0, none⟩))]) (m := r - (i + 1)) ⟨rfl, rfl, rfl, rfl, rfl, rfl, trivial⟩ (by omega)
      ⟨i + 1, _, D7, by omega, hr7, (fun j v hj hv => ?_), (fun j v hj hv => ?_), rfl, uc, rfl, rfl⟩
    · by_cases ej : j = i
      · subst ej
        rw [List.getElem?_set_self (by omega)] at hv
        cases hv
        exact h6
      · rw [List.getElem?_set_ne (Ne.symm ej)] at hv
        exact kept_r _ _ _ _ uc (hN j v (by omega) hv)
    · rw [List.getElem?_set_ne (by omega)] at hv
      exact kept_r _ _ _ _ uc (hO j v (by omega) hv)
  · have e : i = r := by omega
    subst e
    have hgl : Lg i c U4 Do (.slice px i cx) (La.mm k A B) := ⟨px, cx, svs, rfl, hpx.2.1, hro.at (List.Sublist.refl _), fun j v hj => (hN j v (by rw [← hsl]; exact (List.getElem?_eq_some_iff.1 hj).1) hj).ls (ULe.refl _)⟩
    try refine run_s ?_
    refine sl_call rfl rfl rfl rfl rfl rfl (fun _ => mstore_ct (hgl.up (M' := _) uc sb) (by omega) (by omega) (by omega)) ?_
    rintro v6 U6 D6 hU6 ⟨⟨_, rfl, p6, c6, vs6, rfl, h6, e6⟩, -⟩
    refine sl_perm ?_ (perm3 (D := D6))
    repeat (first | refine run_S ?_ | refine w_box (fun _ => ?_) | refine w_al (fun _ => ?_))
    exact sk_ret D6 sym rfl (.cons (.cell 0 rfl rfl rfl) (.cons (.tmp rfl) .nil)) uc sb (.inl rfl) ⟨_, rfl, ⟨_, rfl, p6, c6, vs6, rfl, h6, e6⟩, uc⟩

theorem mMul_ct {r k c b : Nat} {va vb : Value} {A B : Nat → Nat → Rat} (ha : Vm (Wq b) r k U va A) (hv : Vm (Wq b) k c U vb B) (hb1 : 1 ≤ b) (hB : 1 + k * (2 * b + 2) + b ≤ 10000000000) (hr : r ≤ 1000) (hk : k ≤ 1000) (hc : c ≤ 1000) :
    Ct Tryz.prog 93 [va, vb] G U M fun v U' D => ∃ vC, v = .tuple #[vC, .int .i64 0] ∧ Vm Vq r c U' vC (La.mm k A B) ∧ D = [] :=
  (mMul_co ha hv hb1 hB hr hk hc).settle.mono fun _ _ _ _ ⟨h1, _, _, ⟨vC, h2, ⟨a, h3, h9⟩, _⟩, _, h7, h8⟩ =>
    ⟨vC, h2, ⟨a, h3, h9.sett kept_q h7 h8⟩, h1⟩

end Go.Proofs.YtocjmbilepbokaaGreat

/- Walks of the reference of layer 9: Solve. -/
namespace Go.Proofs.YtocjmbilepbokaaGreat
open Go.Hp
variable {G : World} {U U' : UH} {M M' : MH}

end Go.Proofs.YtocjmbilepbokaaGreat

/- Walks of the reference of layer 9: Inverse. -/
namespace Go.Proofs.YtocjmbilepbokaaGreat
open Go.Hp
variable {G : World} {U U' : UH} {M M' : MH}

end Go.Proofs.YtocjmbilepbokaaGreat
